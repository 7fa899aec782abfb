/- Of any rules, over any rows of numbers and marks, chart.Spans and chart.Count tell what the document's chapter 7 tells. Part 2: contracts of the functions that the law reaches, and words for them. -/
import Derived.StillTailTactics
import Derived.WalkSpells
import Derived.Deep.DeepCutAuto
import Derived.Deep.LoopGhost
import Derived.Shelf.SlicesG.CompactI
import Derived.Ground.SlgnProg
import Derived.Test.YtjfbfhoipgldgaaGreatProg
import Derived.Lib.OwnBridge
import Derived.Sort.OwnSortedInts
import Derived.WalkSmall
import Derived.Shelf.SlSortCmp.NoneTotal
import Derived.Ground.SlsfProg
import Derived.Maps.RangeWalk
import Derived.Test.YtjfbfhoipgldgaaGreatMCR1
section
namespace Go.Proofs.YtjfbfhoipgldgaaGreat.P
open Go.RowKit Go.Proofs.YtjfbfhoipgldgaaGreatW.PrintWords Go.Proofs.YtjfbfhoipgldgaaGreatW.PrintLast Go.Proofs.YtjfbfhoipgldgaaGreatW.PrintMore
attribute [local go_sem] ob_ lb_ ub_ tb_ db_ cb_ nb_ kb_   
set_option linter.unusedVariables false
set_option linter.unusedSimpArgs false
open Go.Maps (Keyed)
open Go.MapKept (Stamped)
section
variable {κ : Type} [DecidableEq κ] {P : Program} {kt : TypeId} {enc : κ → Value} {w w1 : World} {b : Nat} {m : List (κ × Value)}
theorem MapOf.entry2 {t e : TypeId} (h : MapOf P kt enc w b m) (K : Keyed P kt) (hinj : ∀ x y, enc x = enc y → x = y) (ht : P.underlying t = some (.map kt e)) {z : Value} (hz : ∀ w, (zeroValue e).run P w = .ok z w) (k : κ) (hk : ∃ l, keyOf P kt (enc k) = some l) :
  ∃ w1 n, (Instr.mapEntry t (.map (some b)) (enc k)).run P w = .ok (.tuple #[(mget m k).getD z, .int .i64 n]) w1 ∧ w.grownBy w1 (some b) ∧ w1.heap.size = w.heap.size ∧ (∃ m1, MapOf P kt enc w1 b m1 ∧ mget m1 k = some ((mget m k).getD z)) ∧
   ∀ W' : World, W'.heap[b]? = w1.heap[b]? → ∀ v, ∃ w2, (Instr.entryStore t (.map (some b)) (.int .i64 n) v).run P W' = .ok () w2 ∧ MapOf P kt enc w2 b (mput m k v) ∧ W'.grownBy w2 (some b) ∧ w2.heap.size = W'.heap.size := by
 have hnd := h.nodup
 obtain ⟨es, clock, hb, he, hks, hs⟩ := h
 obtain ⟨l, hl⟩ := hk
 have hks' : ∀ v, ∀ p ∈ mput m k v, ∃ l, keyOf P kt (enc p.1) = some l := by
  intro v p hp
  rcases fj_ hp with rfl | hp
  ·exact ⟨l, hl⟩
  exact hks p hp
 have hst := (MapKept.stamped_iff es clock).1 hs
 rcases MapOf.find_cases K hinj he hks w k ⟨l, hl⟩ hnd with ⟨h1, h2, h3, h4⟩ | ⟨j, e0, h1, h2, h3, h4, h5⟩
 ·have hb1 : ({ w with heap := w.heap.setIfInBounds b (.map (es.push ⟨enc k, z, clock⟩) (clock + 1)) } : World).heap[b]? = some (.map (es.push ⟨enc k, z, clock⟩) (clock + 1)) := (MapKept.heap_set hb).1
  have hf : (es.push ⟨enc k, z, clock⟩).findIdx? (fun e => (e.born : Int) == (clock : Int)) = some es.size := by
   rw [af_, List.findIdx?_eq_some_iff_getElem]
   refine ⟨by simp, by simp, fun i hi => ?_⟩
   have hi' : i < es.toList.length := by simpa using hi
   have e1 : (es.push ⟨enc k, z, clock⟩).toList[i]'(by simp; omega) = es.toList[i] := by simp [Array.toList_push, List.getElem_append_left hi']
   rw [e1]
   have h9 := hst.1 _ (List.getElem_mem hi')
   intro hc
   have h10 : (es.toList[i].born : Int) = clock := beq_iff_eq.1 hc
   omega
  refine ⟨{ w with heap := w.heap.setIfInBounds b (.map (es.push ⟨enc k, z, clock⟩) (clock + 1)) }, (clock : Int), ?_, sd_ w hb, by simp, ⟨mput m k z, ⟨es.push ⟨enc k, z, clock⟩, clock + 1, hb1, by rw [h4, Array.toList_push, List.map_append, List.map_append, he]; rfl, hks' z, MapKept.stamped_push hs h2⟩, by rw [mb_, h3]; rfl⟩, fun W' hW' v => ⟨{ W' with heap := W'.heap.setIfInBounds b (.map ((es.push ⟨enc k, z, clock⟩).modify es.size fun e => { e with val := v }) (clock + 1)) }, ?_, ⟨(es.push ⟨enc k, z, clock⟩).modify es.size fun e => { e with val := v }, clock + 1, (MapKept.heap_set (hW'.trans hb1)).1, ?_, hks' v, ?_⟩, sd_ W' (hW'.trans hb1), by simp⟩⟩
  ·rw [h3]; simp [Instr.mapEntry, run_underlying ht, MapKept.run_getObj_map hb, K.check w false hl, h1, MapKept.run_setObj_map _ hb, Result.andThen, hz, goInt]
  ·simp only [Instr.entryStore]
   simp [MapKept.run_getObj_map (hW'.trans hb1), asInt, asIntOf, hf, MapKept.run_setObj_map _ (hW'.trans hb1), Result.andThen]
  ·have hpush : (es.push ⟨enc k, z, clock⟩).toList.map (fun e => (e.key, e.val)) = (m ++ [(k, z)]).map (fun p => (enc p.1, p.2)) := by rw [Array.toList_push, List.map_append, List.map_append, he]; rfl
   have hlen : es.size = m.length := by have := congrArg List.length he; simpa using this
   rw [h4, mc_ (k := k) (v := v) hpush _ (fun e he2 => ?_)]
   ·rw [hlen]; simp
   have : e = ⟨enc k, z, clock⟩ := by
    rw [Array.toList_push, List.getElem?_append_right (by simp)] at he2
    simpa using he2.symm
   subst this
   exact ⟨rfl, rfl⟩
  exact MapKept.stamped_modify (MapKept.stamped_push hs h2) _ _ (fun _ _ => rfl) (fun _ _ _ => rfl)
 have hj2 : es[j]? = some e0 := by simpa using h2
 obtain ⟨hj, _⟩ := h5 z
 have hjs : j < es.size := (Array.getElem?_eq_some_iff.1 hj2).1
 have hb1 : ({ w with heap := w.heap.setIfInBounds b (.map (es.modify j fun e => { e with key := enc k }) clock) } : World).heap[b]? = some (.map (es.modify j fun e => { e with key := enc k }) clock) := (MapKept.heap_set hb).1
 have hs1 : Stamped (es.modify j fun e => { e with key := enc k }) clock := MapKept.stamped_modify hs _ _ (fun _ _ => rfl) (fun e' _ he' => by rw [hj2] at he'; cases he'; exact h3.symm)
 have hf : (es.modify j fun e => { e with key := enc k }).findIdx? (fun e => (e.born : Int) == (e0.born : Int)) = some j := by
  rw [af_, List.findIdx?_eq_some_iff_getElem]
  have hn := hst.2.1
  have g : ∀ i (hi : i < es.toList.length), ((es.modify j fun e => { e with key := enc k }).toList[i]'(by simpa using hi)).born = es.toList[i].born := by
   intro i hi
   simp only [Array.toList_modify, List.getElem_modify]
   split <;> rfl
  refine ⟨by simpa using hjs, by rw [g j (by simpa using hjs)]; simp [(Array.getElem?_eq_some_iff.1 hj2).2], fun i hi => ?_⟩
  have hi' : i < es.toList.length := by simp; omega
  rw [g i hi']
  intro hc
  have h6 : es.toList[i].born = e0.born := by have := beq_iff_eq.1 hc; omega
  have h7 : es.toList[j]'(by simpa using hjs) = e0 := by simp [(Array.getElem?_eq_some_iff.1 hj2).2]
  have h8 : (es.toList.map (·.born))[i]'(by simpa using hi') = (es.toList.map (·.born))[j]'(by simpa using hjs) := by simp only [List.getElem_map, h6, h7]
  have := (List.getElem_inj hn).1 h8
  omega
 refine ⟨{ w with heap := w.heap.setIfInBounds b (.map (es.modify j fun e => { e with key := enc k }) clock) }, (e0.born : Int), ?_, sd_ w hb, by simp, ⟨mput m k e0.val, ⟨es.modify j fun e => { e with key := enc k }, clock, hb1, by obtain ⟨_, h6⟩ := h5 e0.val; rw [h6]; exact mc_ he _ (fun e he2 => by rw [h2] at he2; cases he2; exact ⟨rfl, rfl⟩), hks' _, hs1⟩, by rw [mb_, h4]; rfl⟩, fun W' hW' v => ⟨{ W' with heap := W'.heap.setIfInBounds b (.map ((es.modify j fun e => { e with key := enc k }).modify j fun e => { e with val := v }) clock) }, ?_, ⟨(es.modify j fun e => { e with key := enc k }).modify j fun e => { e with val := v }, clock, (MapKept.heap_set (hW'.trans hb1)).1, ?_, hks' v, ?_⟩, sd_ W' (hW'.trans hb1), by simp⟩⟩
 ·rw [h4]; simp [Instr.mapEntry, run_underlying ht, MapKept.run_getObj_map hb, K.check w false hl, h1, hj2, h3, K.stays w hl, MapKept.run_setObj_map _ hb, Result.andThen, goInt]
 ·simp only [Instr.entryStore]
  simp [MapKept.run_getObj_map (hW'.trans hb1), asInt, asIntOf, hf, MapKept.run_setObj_map _ (hW'.trans hb1), Result.andThen]
 ·obtain ⟨_, h6⟩ := h5 v
  have h7 := mc_ (k := k) (v := e0.val) he (fun e => { e with key := enc k }) (j := j) (fun e he2 => by rw [h2] at he2; cases he2; exact ⟨rfl, rfl⟩)
  rw [h6, mc_ (k := k) (v := v) h7 _ (fun e he2 => ?_)]
  ·simp
  rw [Array.toList_modify, List.getElem?_modify, h2] at he2
  simp at he2
  subst he2
  exact ⟨rfl, rfl⟩
 exact MapKept.stamped_modify hs1 _ _ (fun _ _ => rfl) (fun _ _ _ => rfl)
end
section
variable {P : Program} {ops : Array Oper} {o : Oper} {a : Act} {Q : Exit → Act → World → Prop} {Kc : Act → World → Prop} {W : World}
theorem oi_ (hw : Region.wanted o (yielded ops a.tmps) = true) {v : Value} {w1 : World} (hrun : (execOp a.eval o).run P W = .ok (.value v) w1) (h : Kc (a.put o.dst v) w1) :
  if Region.wanted o (yielded ops a.tmps) = true then Oper.wp P o a W Kc Q else Kc (a.put o.dst undef) W := by
 rw [if_pos hw]
 unfold Oper.wp
 rw [hrun]
 exact h
theorem qn_ (hw : Region.wanted o (yielded ops a.tmps) = true) {w1 : World} (hrun : (execOp a.eval o).run P W = .ok .skip w1) (h : Kc (a.put o.dst undef) w1) :
  if Region.wanted o (yielded ops a.tmps) = true then Oper.wp P o a W Kc Q else Kc (a.put o.dst undef) W := by
 rw [if_pos hw]
 unfold Oper.wp
 rw [hrun]
 exact h
theorem so_ (hw : Region.wanted o (yielded ops a.tmps) = true) (t : TypeId) (ho : o.op = .makeMap t none) (h : Kc (a.put o.dst (.map (some W.heap.size))) (W.alloc (.map #[] 0))) :
  if Region.wanted o (yielded ops a.tmps) = true then Oper.wp P o a W Kc Q else Kc (a.put o.dst undef) W :=
 oi_ hw (by unfold execOp; rw [ho]; rfl) h
variable {κ : Type} [DecidableEq κ] {kt : TypeId} {enc : κ → Value} {b : Nat} {m : List (κ × Value)}
theorem jq_ (hw : Region.wanted o (yielded ops a.tmps) = true) (mO x v : Operand) (t e : TypeId) (hop : o.op = Op.mapUpdate t mO x v) (K : Keyed P kt) (hinj : ∀ x y, enc x = enc y → x = y) (ht : P.underlying t = some (.map kt e))
  (hm : a.eval mO = .map (some b)) (h : MapOf P kt enc W b m) (k : κ) (hx : a.eval x = enc k) (hk : ∃ l, keyOf P kt (enc k) = some l) (val : Value) (hv : a.eval v = val)
  (hK : ∀ w', MapOf P kt enc w' b (mput m k val) → W.grownBy w' (some b) → w'.heap.size = W.heap.size → Kc (a.put o.dst undef) w') :
  if Region.wanted o (yielded ops a.tmps) = true then Oper.wp P o a W Kc Q else Kc (a.put o.dst undef) W := by
 obtain ⟨w', hrun, r1, r2, r3⟩ := h.update K hinj ht k hk val
 refine qn_ hw (w1 := w') ?_ (hK w' r1 r2 r3)
 simp [execOp, hop, hm, hx, hv, hrun, Result.andThen]
theorem gs_ (hw : Region.wanted o (yielded ops a.tmps) = true) (mO x : Operand) (t e : TypeId) (hop : o.op = Op.mapEntry t mO x) (K : Keyed P kt) (hinj : ∀ x y, enc x = enc y → x = y) (ht : P.underlying t = some (.map kt e))
  {z : Value} (hz : ∀ w, (zeroValue e).run P w = .ok z w) (hm : a.eval mO = .map (some b)) (h : MapOf P kt enc W b m) (k : κ) (hx : a.eval x = enc k) (hk : ∃ l, keyOf P kt (enc k) = some l)
  (hK : ∀ w1 n, W.grownBy w1 (some b) → w1.heap.size = W.heap.size → (∃ m1, MapOf P kt enc w1 b m1) →
   (∀ W' : World, W'.heap[b]? = w1.heap[b]? → ∀ v, ∃ w2, (Instr.entryStore t (.map (some b)) (.int .i64 n) v).run P W' = .ok () w2 ∧ MapOf P kt enc w2 b (mput m k v) ∧ W'.grownBy w2 (some b) ∧ w2.heap.size = W'.heap.size) →
   Kc (a.put o.dst (.tuple #[(mget m k).getD z, .int .i64 n])) w1) :
  if Region.wanted o (yielded ops a.tmps) = true then Oper.wp P o a W Kc Q else Kc (a.put o.dst undef) W := by
 obtain ⟨w1, n, hrun, r1, r2, ⟨m1, r3, _⟩, r4⟩ := h.entry2 K hinj ht hz k hk
 refine oi_ hw (w1 := w1) ?_ (hK w1 n r1 r2 ⟨m1, r3⟩ r4)
 simp [execOp, hop, hm, hx, hrun, Result.andThen]
theorem dh_ (hw : Region.wanted o (yielded ops a.tmps) = true) (mO s x : Operand) (t : TypeId) (hop : o.op = Op.entryStore t mO s x) {n : Int} {val : Value} (hm : a.eval mO = .map (some b)) (hs : a.eval s = .int .i64 n) (hx : a.eval x = val)
  {w2 : World} (hrun : (Instr.entryStore t (.map (some b)) (.int .i64 n) val).run P W = .ok () w2) (hK : Kc (a.put o.dst undef) w2) :
  if Region.wanted o (yielded ops a.tmps) = true then Oper.wp P o a W Kc Q else Kc (a.put o.dst undef) W := by
 refine qn_ hw (w1 := w2) ?_ hK
 simp [execOp, hop, hm, hs, hx, hrun, Result.andThen]
end
end Go.Proofs.YtjfbfhoipgldgaaGreat.P
end
section
namespace Go.Proofs.YtjfbfhoipgldgaaGreat.P
open Go.RowKit Go.Proofs.YtjfbfhoipgldgaaGreatW.PrintWords Go.Proofs.YtjfbfhoipgldgaaGreatW.PrintLast Go.Proofs.YtjfbfhoipgldgaaGreatW.PrintMore
attribute [local go_sem] ob_ lb_ ub_ tb_ db_ cb_ nb_ kb_   
set_option linter.unusedVariables false
set_option linter.unusedSimpArgs false
open Go.Maps (Keyed)
theorem ag_ (P : TabP) (i : Nat) (hi : i < P.rules.length) : Chart.rhsOf P.rl i = P.rules[i].f1 ∧ Chart.lhsOf P.rl i = P.rules[i].f0 := by
 unfold Chart.rhsOf Chart.lhsOf TabP.rl
 rw [List.getD_eq_getElem?_getD, List.getElem?_map, List.getElem?_eq_getElem hi]
 exact ⟨rfl, rfl⟩
theorem rl_i64 {P : TabP} (h : P.Ok) (i : Nat) (hi : i < P.rules.length) (x : Int) (hx : P.rules[i].f0 = x) : ie_ x := by
 have := (h.syms _ (List.getElem_mem hi)).1
 rw [hx] at this
 exact ⟨by omega, by omega⟩
set_option maxHeartbeats 4000000 in
set_option maxRecDepth 100000 in
theorem ln_ (P : TabP) (W : World) (st : Chart.St) (im : List (Key3 × Nat)) (em : List (Key3 × Value)) (h : Tab P W st im em) (i d f t : Nat) :
  Calls Tryz.prog 83 #[.pointer (some ⟨P.tb, 0, none⟩), .agg #[.int .i64 (i : Int), .int .i64 (d : Int), .int .i64 (f : Int)], .int .i64 (t : Int), .int .i64 0] W fun e W' => e = .returned (.tuple #[]) ∧ Tab P W' st im em ∧ Calm W W' := by
 have HH := Aside0.mk h
 clear h
 go_enter Tryz.func83, Tryz.ntmps83
 go_wp2
 refine bodyPost_ret (results_none rfl _ _ _) rfl ?_
 exact ⟨rfl, HH.out.belowW (ba_ (Below.refl _ _) _), Calm.below (ba_ (Below.refl _ _) _)⟩
set_option maxHeartbeats 4000000 in
set_option maxRecDepth 100000 in
theorem nn_ (P : TabP) (W : World) (st : Chart.St) (im : List (Key3 × Nat)) (em : List (Key3 × Value)) (h : Tab P W st im em) (i d f t v : Nat) (hi : i < P.rules.length) (hv : 0 < v) (hvm : v ≤ P.most) (hd : d = P.rules[i].f1.length) (hi2 : i ≤ 1000000) (hd2 : d ≤ 1000000) (hf2 : f ≤ 1000000) (ht2 : t ≤ 1000000) :
  Calls Tryz.prog 83 #[.pointer (some ⟨P.tb, 0, none⟩), .agg #[.int .i64 (i : Int), .int .i64 (d : Int), .int .i64 (f : Int)], .int .i64 (t : Int), .int .i64 (v : Int)] W fun e W' => e = .returned (.tuple #[]) ∧ Tab P W' (st.add P.rl P.most i d f t v) im em ∧ Calm W W' := by
 have hvz : ((v : Int) == 0) = false := by simp; omega
 have hvz2 : (v == 0) = false := by simp; omega
 have hiz : (i : Int) < (P.rules.length : Int) := by omega
 have HH := Aside0.mk (h.belowW (ba_ (Below.refl _ _) (.cells #[.int .i64 (i : Int), .int .i64 (d : Int), .int .i64 (f : Int)] 134)))
 have HBX := Aside0.mk (pb_ W (.cells #[.int .i64 (i : Int), .int .i64 (d : Int), .int .i64 (f : Int)] 134))
 have HDL := Aside0.mk hd
 have HCa := Aside0.mk (Calm.below (ba_ (Below.refl W.heap.size W) (.cells #[.int .i64 (i : Int), .int .i64 (d : Int), .int .i64 (f : Int)] 134)))
 clear h hd
 go_enter Tryz.func83, Tryz.ntmps83
 go_wp2
 generalize W.alloc (.cells #[.int .i64 (i : Int), .int .i64 (d : Int), .int .i64 (f : Int)] 134) = W1 at *
 generalize W.heap.size = g at *
 have c0 : W1.cell? ⟨P.tb, 0, none⟩ = some (.slice P.Ar P.rules.length P.cr) := HH.out.cell 0 _ rfl
 have c3 : W1.cell? ⟨P.tb, 3, none⟩ = some (.map (some P.b3)) := HH.out.cell 3 _ rfl
 have e0 : W1.cell? ⟨g, 0, none⟩ = some (.int .i64 (i : Int)) := ca_ HBX.out 0
 have e1 : W1.cell? ⟨g, 1, none⟩ = some (.int .i64 (d : Int)) := ca_ HBX.out 1
 have e2 : W1.cell? ⟨g, 2, none⟩ = some (.int .i64 (f : Int)) := ca_ HBX.out 2
 obtain ⟨ad, A1, c1, A3, c3', hA, h0, h1, h2, h3, h4, l1, g1, l3, g3⟩ := sf_ (Kd.C_below HH.out.ok.rulesC HH.out.below) i (by omega) hiz
 have hx : qb_ P.rules i = P.rules[i] := by simp [qb_, List.getD_eq_getElem?_getD, List.getElem?_eq_getElem hi]
 have HX := Aside0.mk hx
 have hd := HDL.out
 rw [← hx] at hd
 generalize qb_ P.rules i = y at *
 rw [Int.toNat_natCast] at h0 h1
 rw [hA] at c0
 clear h2 h3 h4 l1 g1 l3 g3 hx
 have HD := Aside0.mk hd
 have hdb : ((d : Int) == (y.f1.length : Int)) = true := by rw [hd]; simp
 have hdb2 : (d == y.f1.length) = true := by rw [hd]; simp
 clear hd
 go_quiet (fail)
 go_wp2
 have HH2 := Aside0.mk (HH.out.drewN nq)
 have HBX2 := Aside0.mk (show (W1.drewN nq).heap[g]? = some (.cells #[.int .i64 (i : Int), .int .i64 (d : Int), .int .i64 (f : Int)] 134 (0, 0)) from HBX.out)
 have k0 : (W1.drewN nq).cell? (ad.add (i * 5)) = some (.int .i64 y.f0) := h0
 have k1 : (W1.drewN nq).cell? ⟨P.tb, 0, none⟩ = some (.slice (some ad) P.rules.length P.cr) := c0
 have k2 : (W1.drewN nq).cell? ⟨g, 0, none⟩ = some (.int .i64 (i : Int)) := e0
 have k3 : (W1.drewN nq).cell? ⟨g, 2, none⟩ = some (.int .i64 (f : Int)) := e2
 have HCb := Aside0.mk (HCa.out.drewN nq)
 clear c0 c3 e0 e1 e2 h0 h1 HH HBX HCa
 generalize W1.drewN nq = W2 at *
 clear hdb hdb2
 have up : ∀ {a : Addr} {u : Value}, W2.cell? a = some u → (W2.alloc (.cells #[.int .i64 0, .int .i64 0, .int .i64 0] 42)).cell? a = some u := fun hc => (World.cell?_alloc_lt _ _ _ (World.block_lt_of_cell? _ _ hc)).trans hc
 have u0 := up k0
 have u1 := up k1
 have u2 := up k2
 have u3 := up k3
 clear up
 go_region
 have HH3 := Aside0.mk (HH2.out.belowW (xb_ (ba_ (Below.refl _ _) (.cells #[.int .i64 y.f0, .int .i64 (f : Int), .int .i64 (t : Int)] 42))))
 have HSP := Aside0.mk (ia_ (pb_ W2 (.cells #[.int .i64 y.f0, .int .i64 (f : Int), .int .i64 (t : Int)] 42)))
 have HCc := Aside0.mk (HCb.out.trans (Calm.below (xb_ (ba_ (Below.refl _ _) (.cells #[.int .i64 y.f0, .int .i64 (f : Int), .int .i64 (t : Int)] 42)))))
 clear u0 u1 u2 u3 k0 k1 k2 k3 HCb
 go_wp2
 generalize (W2.alloc (.cells #[.int .i64 y.f0, .int .i64 (f : Int), .int .i64 (t : Int)] 42)).drew = W3 at *
 generalize W2.heap.size = g2 at *
 have d3 : W3.cell? ⟨P.tb, 3, none⟩ = some (.map (some P.b3)) := HH3.out.cell 3 _ rfl
 have s0 : W3.cell? ⟨g2, 0, none⟩ = some (.int .i64 y.f0) := ca_ HSP.out 0
 have s1 : W3.cell? ⟨g2, 1, none⟩ = some (.int .i64 (f : Int)) := ca_ HSP.out 1
 have s2 : W3.cell? ⟨g2, 2, none⟩ = some (.int .i64 (t : Int)) := ca_ HSP.out 2
 have HH4 : Aside0 (Tab P W3.drew st im em) := ⟨HH3.out.drewN 1⟩
 obtain ⟨m, hM, hget, hput⟩ := HH4.out.putCell y.f0 f t
 have hy := HX.out
 have hb0 : ie_ y.f0 := rl_i64 HH3.out.ok i hi y.f0 (by rw [hy])
 have hkey := pf_ (a := y.f0) (b := (f : Int)) (c := (t : Int)) hb0 ⟨by omega, by omega⟩ ⟨by omega, by omega⟩
 have hl := hM.lookup fe_ wc_ Tryz.underlying54 (rd_ W3.drew) (y.f0, (f : Int), (t : Int)) hkey false
 simp only [se_, Bool.false_eq_true, if_false, hget] at hl
 have hl1 : (Instr.lookup 54 (.map (some P.b3)) (.agg #[.int .i64 y.f0, .int .i64 (f : Int), .int .i64 (t : Int)]) false).run Tryz.prog W3.drew = .ok (.int .i64 (st.cells y.f0 f t : Int)) W3.drew := hl
 have HM := Aside0.mk hM
 have HP := Aside0.mk hput
 clear hl hM hput hy hb0
 have hc := gq_ P W3.drew st im em HH4.out (st.cells y.f0 f t) v (HH4.out.low _ _ _) hvm
 go_still_tail 14, (by kernel_rfl)
 still_call (hc.mono fun _ _ h => h)
 repeat still_step
 refine wpStill_nil ?_
 refine ud_ (b := P.b3) (enc := encK) (m := encC m) rfl (.tmp 40) (.tmp 41) (.tmp 50) 54 3 rfl fe_ wc_ Tryz.underlying54 rfl HM.out (y.f0, (f : Int), (t : Int)) rfl hkey (.int .i64 (Chart.cap P.most (st.cells y.f0 f t + v) : Int)) rfl (fun W5 hM5 hg5 hs5 => ?_)
 have HT := Aside0.mk (HP.out W5 (Chart.cap P.most (st.cells y.f0 f t + v)) (by unfold Chart.cap; have := HH4.out.ok.most1; omega) (by unfold Chart.cap; omega) hM5 hg5)
 have HCd := Aside0.mk (HCc.out.trans (Calm.map (W := W3.drew) HM.out hg5))
 clear hM5 hg5 hs5
 go_wp2
 refine bodyPost_ret (results_none rfl _ _ _) rfl ?_
 refine ⟨rfl, ?_⟩
 have e1 : Chart.St.add P.rl P.most st i d f t v = { st with cells := fun s' p q => if s' = y.f0 ∧ p = f ∧ q = t then Chart.cap P.most (st.cells y.f0 f t + v) else st.cells s' p q } := by
  have hz : ¬ v = 0 := by omega
  unfold Chart.St.add
  rw [if_neg hz, if_pos (by rw [(ag_ P i hi).1]; exact HDL.out), (ag_ P i hi).2, ← HX.out]
  congr 1
  funext s' p q
  by_cases hh : s' = y.f0 ∧ p = f ∧ q = t
  ·rw [if_pos hh, if_pos hh, hh.1, hh.2.1, hh.2.2]
  rw [if_neg hh, if_neg hh]
 rw [e1]
 exact ⟨HT.out, HCd.out⟩
theorem vi_ (w : World) : (zeroValue 126).run Tryz.prog w = .ok (.map none) w := by kernel_rfl
theorem on_ (w : World) : (zeroValue 23).run Tryz.prog w = .ok (.slice none 0 0) w := by kernel_rfl
set_option maxHeartbeats 4000000 in
set_option maxRecDepth 100000 in
theorem mn_ (P : TabP) (W : World) (st : Chart.St) (im : List (Key3 × Nat)) (em : List (Key3 × Value)) (h : Tab P W st im em) (heo : EndsOk st) (i d f t v : Nat) (hi : i < P.rules.length) (hv : 0 < v) (hvm : v ≤ P.most) (hd : d < P.rules[i].f1.length) (hi2 : i ≤ 1000000) (hd2 : d ≤ 1000000) (hf2 : f ≤ 1000000) (ht2 : t ≤ 1000000) :
  Calls Tryz.prog 83 #[.pointer (some ⟨P.tb, 0, none⟩), .agg #[.int .i64 (i : Int), .int .i64 (d : Int), .int .i64 (f : Int)], .int .i64 (t : Int), .int .i64 (v : Int)] W fun e W' => tu_ P em ((i : Int), (d : Int), (f : Int)) (st.add P.rl P.most i d f t v) W e W' := by
 have hvz : ((v : Int) == 0) = false := by simp; omega
 have hvz2 : (v == 0) = false := by simp; omega
 have hiz : (i : Int) < (P.rules.length : Int) := by omega
 have HH := Aside0.mk (h.belowW (ba_ (Below.refl _ _) (.cells #[.int .i64 (i : Int), .int .i64 (d : Int), .int .i64 (f : Int)] 134)))
 have HBX := Aside0.mk (pb_ W (.cells #[.int .i64 (i : Int), .int .i64 (d : Int), .int .i64 (f : Int)] 134))
 have HDL := Aside0.mk hd
 have HEO := Aside0.mk heo
 have HCa := Aside0.mk (Calm.below (ba_ (Below.refl W.heap.size W) (.cells #[.int .i64 (i : Int), .int .i64 (d : Int), .int .i64 (f : Int)] 134)))
 clear h hd heo
 go_enter Tryz.func83, Tryz.ntmps83
 go_wp2
 generalize W.alloc (.cells #[.int .i64 (i : Int), .int .i64 (d : Int), .int .i64 (f : Int)] 134) = W1 at *
 generalize W.heap.size = g at *
 have c0 : W1.cell? ⟨P.tb, 0, none⟩ = some (.slice P.Ar P.rules.length P.cr) := HH.out.cell 0 _ rfl
 have c3 : W1.cell? ⟨P.tb, 3, none⟩ = some (.map (some P.b3)) := HH.out.cell 3 _ rfl
 have e0 : W1.cell? ⟨g, 0, none⟩ = some (.int .i64 (i : Int)) := ca_ HBX.out 0
 have e1 : W1.cell? ⟨g, 1, none⟩ = some (.int .i64 (d : Int)) := ca_ HBX.out 1
 have e2 : W1.cell? ⟨g, 2, none⟩ = some (.int .i64 (f : Int)) := ca_ HBX.out 2
 obtain ⟨ad, A1, c1, A3, c3', hA, h0, h1, h2, h3, h4, l1, g1, l3, g3⟩ := sf_ (Kd.C_below HH.out.ok.rulesC HH.out.below) i (by omega) hiz
 have hx : qb_ P.rules i = P.rules[i] := by simp [qb_, List.getD_eq_getElem?_getD, List.getElem?_eq_getElem hi]
 have HX := Aside0.mk hx
 have hd := HDL.out
 rw [← hx] at hd
 generalize qb_ P.rules i = y at *
 rw [Int.toNat_natCast] at h0 h1
 rw [hA] at c0
 clear h2 h3 h4 l1 g1 l3 g3 hx
 have HD := Aside0.mk hd
 have hdb : ((d : Int) == (y.f1.length : Int)) = false := by simp; omega
 have hdb2 : (d == y.f1.length) = false := by simp; omega
 clear hd
 go_quiet (fail)
 go_wp2
 have HH2 := Aside0.mk (HH.out.drewN nq)
 have HBX2 := Aside0.mk (show (W1.drewN nq).heap[g]? = some (.cells #[.int .i64 (i : Int), .int .i64 (d : Int), .int .i64 (f : Int)] 134 (0, 0)) from HBX.out)
 have HCb := Aside0.mk (HCa.out.drewN nq)
 clear c0 c3 e0 e1 e2 h0 h1 HH HBX hdb hdb2 HCa
 generalize W1.drewN nq = W2 at *
 have f0 : W2.cell? ⟨P.tb, 4, none⟩ = some (.map (some P.b4)) := HH2.out.cell 4 _ rfl
 have e0 : W2.cell? ⟨g, 0, none⟩ = some (.int .i64 (i : Int)) := ca_ HBX2.out 0
 have e1 : W2.cell? ⟨g, 1, none⟩ = some (.int .i64 (d : Int)) := ca_ HBX2.out 1
 have e2 : W2.cell? ⟨g, 2, none⟩ = some (.int .i64 (f : Int)) := ca_ HBX2.out 2
 have hkey := fm_ (a := (i : Int)) (b := (d : Int)) (c := (f : Int)) ⟨by omega, by omega⟩ ⟨by omega, by omega⟩ ⟨by omega, by omega⟩
 have hl := fun n => (HH2.out.items.drewN n).lookup we_ wc_ Tryz.underlying55 (vi_ (W2.drewN n)) ((i : Int), (d : Int), (f : Int)) hkey false
 have hmm := re_ (fun b : Nat => Value.map (some b)) ((i : Int), (d : Int), (f : Int)) im
 simp only [hmm, Bool.false_eq_true, if_false] at hl
 have hl1 : ∀ n, (Instr.lookup 55 (.map (some P.b4)) (.agg #[.int .i64 (i : Int), .int .i64 (d : Int), .int .i64 (f : Int)]) false).run Tryz.prog (W2.drewN n) = .ok (((mget im ((i : Int), (d : Int), (f : Int))).map fun b => Value.map (some b)).getD (.map none)) (W2.drewN n) := hl
 have qT : ∀ (w : World) (r : Option Nat), (binOp .eql 126 (.map r) (.map none)).run Tryz.prog w = .ok (.bool r.isNone) w := fun w r => run_eql_map_nil w _ _ _ r Tryz.underlying126
 have HKEY := Aside0.mk hkey
 clear hl hmm hkey
 rcases hm : mget im ((i : Int), (d : Int), (f : Int)) with _ | b
 all_goals
  simp only [hm, Option.map_none, Option.map_some, Option.getD_none, Option.getD_some] at hl1
  have HIM := Aside0.mk hm
  clear hm
  go_quiet (fail)
  go_wp2
  have HH3 := Aside0.mk (HH2.out.drewN nq)
  have HBX3 := Aside0.mk (show (W2.drewN nq).heap[g]? = some (.cells #[.int .i64 (i : Int), .int .i64 (d : Int), .int .i64 (f : Int)] 134 (0, 0)) from HBX2.out)
  have HC3 := Aside0.mk (HCb.out.drewN nq)
  clear f0 e0 e1 e2 hl1 qT HH2 HBX2 HCb
  generalize W2.drewN nq = W3 at *
 focus
  have r0 : W3.drew.cell? ⟨P.tb, 4, none⟩ = some (.map (some P.b4)) := HH3.out.cell 4 _ rfl
  have r1 : W3.drew.cell? ⟨g, 0, none⟩ = some (.int .i64 (i : Int)) := ca_ HBX3.out 0
  have r2 : W3.drew.cell? ⟨g, 1, none⟩ = some (.int .i64 (d : Int)) := ca_ HBX3.out 1
  have r3 : W3.drew.cell? ⟨g, 2, none⟩ = some (.int .i64 (f : Int)) := ca_ HBX3.out 2
  have HH4 : Aside0 (Tab P W3.drew st im em) := ⟨HH3.out.drewN 1⟩
  have HM4 := Aside0.mk (HH4.out.items.below (ba_ (Below.refl _ W3.drew) (.map #[] 0)))
  refine td_ (n := 7) (S := fun w' => w'.cell? ⟨P.tb, 4, none⟩ = some (.map (some P.b4)) ∧ w'.cell? ⟨g, 0, none⟩ = some (.int .i64 (i : Int)) ∧ w'.cell? ⟨g, 1, none⟩ = some (.int .i64 (d : Int)) ∧ w'.cell? ⟨g, 2, none⟩ = some (.int .i64 (f : Int))) (ds := [6]) (f_ 7 0) (by kernel_rfl) rfl rfl ⟨r0, r1, r2, r3⟩ (fun hHeld => ?_)
  refine pa_ (i := 0) (N := some 58) (v := ?_) (a' := ?_) (f_ 7 1) rfl rfl (by kernel_rfl) (fun _ _ _ h => h) (Or.inl ⟨by rfl, ?_⟩) ?_ ?_
  rotate_left
  ·intro w'
   go_simp
   try with_reducible rfl
  rotate_left
  ·simp only [Act.put, s1_, s2_, s3_, ka_, la_]
   rfl
  refine pa_ (i := 1) (N := some 59) (v := ?_) (a' := ?_) (f_ 7 2) rfl rfl (by kernel_rfl) (fun _ _ _ h => h) (Or.inl ⟨by rfl, ?_⟩) ?_ ?_
  rotate_left
  ·intro w'
   go_simp
   try with_reducible rfl
  rotate_left
  ·simp only [Act.put, s1_, s2_, s3_, ka_, la_]
   rfl
  refine pa_ (i := 2) (N := some 60) (v := ?_) (a' := ?_) (f_ 7 3) rfl rfl (by kernel_rfl) (fun _ _ _ h => h) (Or.inl ⟨by rfl, ?_⟩) ?_ ?_
  rotate_left
  ·intro w'
   go_simp
   try with_reducible rfl
  rotate_left
  ·simp only [Act.put, s1_, s2_, s3_, ka_, la_]
   rfl
  refine take_ (i := 3) (N := some 61) (v := ?_) (a' := ?_) (f_ 7 4) rfl rfl (by kernel_rfl) (fun _ _ _ h => h) (Or.inl ⟨by rfl, ?_⟩) hHeld ?_ ?_
  rotate_left
  ·rintro w' ⟨s0, s1, s2, s3⟩
   go_simp
   try with_reducible rfl
  rotate_left
  ·simp only [Act.put, s1_, s2_, s3_, ka_, la_]
   rfl
  refine take_ (i := 4) (N := some 62) (v := ?_) (a' := ?_) (f_ 7 5) rfl rfl (by kernel_rfl) (fun _ _ _ h => h) (Or.inl ⟨by rfl, ?_⟩) hHeld ?_ ?_
  rotate_left
  ·rintro w' ⟨s0, s1, s2, s3⟩
   go_simp
   try with_reducible rfl
  rotate_left
  ·simp only [Act.put, s1_, s2_, s3_, ka_, la_]
   rfl
  refine one_ (i := 5) (N := some 63) (f_ 7 6) rfl rfl (by kernel_rfl) (by decide) (fun K hK => ?_)
  refine so_ (by rfl) 126 rfl ?_
  refine hK.out _ _ ⟨(World.cell?_alloc_lt _ _ _ (World.block_lt_of_cell? _ _ hHeld.1)).trans hHeld.1, (World.cell?_alloc_lt _ _ _ (World.block_lt_of_cell? _ _ hHeld.2.1)).trans hHeld.2.1, (World.cell?_alloc_lt _ _ _ (World.block_lt_of_cell? _ _ hHeld.2.2.1)).trans hHeld.2.2.1, (World.cell?_alloc_lt _ _ _ (World.block_lt_of_cell? _ _ hHeld.2.2.2)).trans hHeld.2.2.2⟩ (fun hHeld2 => ?_)
  clear hK K
  refine rb_ (a' := ?_) ?_ ?_
  rotate_left
  ·show Act.put _ (some 63) _ = _
   simp only [Act.put, s1_, s2_, s3_, ka_, la_]
   rfl
  refine kg_ (i := 6) (N := none) (f_ 7 7) rfl rfl (by kernel_rfl) (by decide) (fun K hK => ?_)
  refine jq_ (by rfl) (.tmp 61) (.tmp 62) (.tmp 63) 55 126 rfl we_ wc_ Tryz.underlying55 rfl HM4.out ((i : Int), (d : Int), (f : Int)) rfl HKEY.out (Value.map (some W3.drew.heap.size)) rfl (fun W4 hM4 hg4 hs4 => ?_)
  have HT4 := Aside0.mk (Tab.putNew HH4.out i d f HIM.out hM4 hg4)
  have hcx := (Calm.below (ba_ (Below.refl _ W3.drew) (.map #[] 0))).trans (Calm.map HM4.out hg4)
  have HC4 := Aside0.mk ((HC3.out.drewN 1).trans hcx)
  have HBX4 := Aside0.mk (hcx.blk (k := g) HBX3.out (by decide))
  clear hcx
  clear hM4 hg4 hs4
  refine hK.out _ _ ?_
  clear hK K
  refine je_ (by kernel_rfl) ?_
  have HIM4 : Aside0 (mget (im ++ [(((i : Int), (d : Int), (f : Int)), W3.drew.heap.size)]) ((i : Int), (d : Int), (f : Int)) = some W3.drew.heap.size) := ⟨by rw [lh_, HIM.out]; simp [mget]⟩
  clear r0 r1 r2 r3 HH3 HH4 HM4 HBX3 HC3 HIM hHeld hHeld2
  generalize W3.drew.heap.size = b at *
  generalize im ++ [(((i : Int), (d : Int), (f : Int)), b)] = im4 at *
  go_wp2
 rotate_left
 focus
  have HT4 := HH3
  have HC4 := HC3
  have HBX4 := HBX3
  have HIM4 := HIM
  clear HH3 HC3 HBX3 HIM
  generalize W3 = W4 at *
  have him : im = im := rfl
  generalize im = im4 at HT4 HIM4
  clear him
 all_goals
  have r0 : W4.cell? ⟨P.tb, 4, none⟩ = some (.map (some P.b4)) := HT4.out.cell 4 _ rfl
  have r1 : W4.cell? ⟨g, 0, none⟩ = some (.int .i64 (i : Int)) := ca_ HBX4.out 0
  have r2 : W4.cell? ⟨g, 1, none⟩ = some (.int .i64 (d : Int)) := ca_ HBX4.out 1
  have r3 : W4.cell? ⟨g, 2, none⟩ = some (.int .i64 (f : Int)) := ca_ HBX4.out 2
  have hl := fun n => (HT4.out.items.drewN n).lookup we_ wc_ Tryz.underlying55 (vi_ (W4.drewN n)) ((i : Int), (d : Int), (f : Int)) HKEY.out false
  have hmm := re_ (fun b : Nat => Value.map (some b)) ((i : Int), (d : Int), (f : Int)) im4
  simp only [hmm, HIM4.out, Bool.false_eq_true, if_false, Option.map_some, Option.getD_some] at hl
  have hl1 : ∀ n, (Instr.lookup 55 (.map (some P.b4)) (.agg #[.int .i64 (i : Int), .int .i64 (d : Int), .int .i64 (f : Int)]) false).run Tryz.prog (W4.drewN n) = .ok (.map (some b)) (W4.drewN n) := hl
  obtain ⟨m4, hM4, hget4, _⟩ := HT4.out.putItem i d f t HIM4.out
  have hl2 := fun n => (hM4.drewN n).lookup chInt (fun x y e => by injection e) Tryz.underlying126 (rd_ (W4.drewN n)) (t : Int) (xh_ ⟨by omega, by omega⟩) false
  simp only [se_, Bool.false_eq_true, if_false, hget4] at hl2
  clear hl hmm hM4 hget4
  by_cases hz : st.items i d f t = 0
  focus
   have hzb : ((st.items i d f t : Int) == 0) = true := by rw [hz]; rfl
   have HZ := Aside0.mk hz
   clear hz
   go_quiet (fail)
   go_wp2
   have HT5 := Aside0.mk (HT4.out.drewN nq)
   have HBX5 := Aside0.mk (show (W4.drewN nq).heap[g]? = some (.cells #[.int .i64 (i : Int), .int .i64 (d : Int), .int .i64 (f : Int)] 134 (0, 0)) from HBX4.out)
   have HC5 := Aside0.mk (HC4.out.drewN nq)
   clear r0 r1 r2 r3 hl1 hl2 hzb HT4 HBX4 HC4
   generalize W4.drewN nq = W5 at *
   have HTd : Aside0 (Tab P W5.drew st im4 em) := ⟨HT5.out.drewN 1⟩
   have HLT := Aside0.mk (HTd.out.putEnd i d f t).1.lt
   have HTe := Aside0.mk (HTd.out.belowW (ba_ (Below.refl _ W5.drew) (.cells #[.int .i64 (t : Int)] 3)))
   have HE := Aside0.mk (HTe.out.putEnd i d f t).1
   have r0 : W5.drew.cell? ⟨P.tb, 5, none⟩ = some (.map (some P.b5)) := HTd.out.cell 5 _ rfl
   have r1 : W5.drew.cell? ⟨g, 0, none⟩ = some (.int .i64 (i : Int)) := ca_ HBX5.out 0
   have r2 : W5.drew.cell? ⟨g, 1, none⟩ = some (.int .i64 (d : Int)) := ca_ HBX5.out 1
   have r3 : W5.drew.cell? ⟨g, 2, none⟩ = some (.int .i64 (f : Int)) := ca_ HBX5.out 2
   refine td_ (n := 12) (S := fun w' => w'.cell? ⟨P.tb, 5, none⟩ = some (.map (some P.b5)) ∧ w'.cell? ⟨g, 0, none⟩ = some (.int .i64 (i : Int)) ∧ w'.cell? ⟨g, 1, none⟩ = some (.int .i64 (d : Int)) ∧ w'.cell? ⟨g, 2, none⟩ = some (.int .i64 (f : Int))) (ds := [7, 9, 11]) (f_ 12 0) (by kernel_rfl) rfl rfl ⟨r0, r1, r2, r3⟩ (fun hHeld => ?_)
   refine pa_ (i := 0) (N := some 73) (v := ?_) (a' := ?_) (f_ 12 1) rfl rfl (by kernel_rfl) (fun _ _ _ h => h) (Or.inl ⟨by rfl, ?_⟩) ?_ ?_
   rotate_left
   ·intro w'
    go_simp
    try with_reducible rfl
   rotate_left
   ·simp only [Act.put, s1_, s2_, s3_, ka_, la_]
    rfl
   refine pa_ (i := 1) (N := some 74) (v := ?_) (a' := ?_) (f_ 12 2) rfl rfl (by kernel_rfl) (fun _ _ _ h => h) (Or.inl ⟨by rfl, ?_⟩) ?_ ?_
   rotate_left
   ·intro w'
    go_simp
    try with_reducible rfl
   rotate_left
   ·simp only [Act.put, s1_, s2_, s3_, ka_, la_]
    rfl
   refine pa_ (i := 2) (N := some 75) (v := ?_) (a' := ?_) (f_ 12 3) rfl rfl (by kernel_rfl) (fun _ _ _ h => h) (Or.inl ⟨by rfl, ?_⟩) ?_ ?_
   rotate_left
   ·intro w'
    go_simp
    try with_reducible rfl
   rotate_left
   ·simp only [Act.put, s1_, s2_, s3_, ka_, la_]
    rfl
   refine take_ (i := 3) (N := some 76) (v := ?_) (a' := ?_) (f_ 12 4) rfl rfl (by kernel_rfl) (fun _ _ _ h => h) (Or.inl ⟨by rfl, ?_⟩) hHeld ?_ ?_
   rotate_left
   ·rintro w' ⟨s0, s1, s2, s3⟩
    go_simp
    try with_reducible rfl
   rotate_left
   ·simp only [Act.put, s1_, s2_, s3_, ka_, la_]
    rfl
   refine take_ (i := 4) (N := some 77) (v := ?_) (a' := ?_) (f_ 12 5) rfl rfl (by kernel_rfl) (fun _ _ _ h => h) (Or.inl ⟨by rfl, ?_⟩) hHeld ?_ ?_
   rotate_left
   ·rintro w' ⟨s0, s1, s2, s3⟩
    go_simp
    try with_reducible rfl
   rotate_left
   ·simp only [Act.put, s1_, s2_, s3_, ka_, la_]
    rfl
   refine pa_ (i := 5) (N := some 79) (v := ?_) (a' := ?_) (f_ 12 6) rfl rfl (by kernel_rfl) (fun _ _ _ h => h) (Or.inl ⟨by rfl, ?_⟩) ?_ ?_
   rotate_left
   ·intro w'
    go_simp
    try with_reducible rfl
   rotate_left
   ·simp only [Act.put, s1_, s2_, s3_, ka_, la_]
    rfl
   refine one_ (i := 6) (N := some 80) (f_ 12 7) rfl rfl (by kernel_rfl) (by decide) (fun K hK => ?_)
   refine yf_ (w1 := ?_) (v := ?_) (by rfl) rfl ?_ ?_
   rotate_left 2
   ·go_simp
    constructor
    ·rfl
    rfl
   refine hK.out _ _ ⟨(World.cell?_alloc_lt _ _ _ (World.block_lt_of_cell? _ _ hHeld.1)).trans hHeld.1, (World.cell?_alloc_lt _ _ _ (World.block_lt_of_cell? _ _ hHeld.2.1)).trans hHeld.2.1, (World.cell?_alloc_lt _ _ _ (World.block_lt_of_cell? _ _ hHeld.2.2.1)).trans hHeld.2.2.1, (World.cell?_alloc_lt _ _ _ (World.block_lt_of_cell? _ _ hHeld.2.2.2)).trans hHeld.2.2.2⟩ (fun hHeld => ?_)
   clear hK K
   refine rb_ (a' := ?_) ?_ ?_
   rotate_left
   ·show Act.put _ (some 80) _ = _
    simp only [Act.put, s1_, s2_, s3_, ka_, la_]
    rfl
   refine kg_ (i := 7) (N := some 81) (f_ 12 8) rfl rfl (by kernel_rfl) (by decide) (fun K hK => ?_)
   refine gs_ (by rfl) (.tmp 76) (.tmp 77) 56 23 rfl we_ wc_ Tryz.underlying56 on_ rfl HE.out ((i : Int), (d : Int), (f : Int)) rfl HKEY.out (fun w1 n hg1 hs1 hm1 hst => ?_)
   have hbk1 : w1.heap[W5.drew.heap.size]? = some (.cells #[.int .i64 (t : Int)] 3 (0, 0)) := ya_ (pb_ W5.drew (.cells #[.int .i64 (t : Int)] 3)) hg1 (fun e => by have := HLT.out; injection e with e; omega)
   have hrow := end_row HTe.out i d f t hg1
   have HG1 := Aside0.mk hg1
   have HS1 := Aside0.mk hs1
   have HM1 := Aside0.mk hm1
   have HST := Aside0.mk hst
   have HBK1 := Aside0.mk hbk1
   have HROW := Aside0.mk hrow
   clear hg1 hs1 hm1 hst hbk1 hrow
   refine hK.out _ _ ?_
   clear hK K
   refine rb_ (a' := ?_) ?_ ?_
   rotate_left
   ·show Act.put _ (some 81) _ = _
    simp only [Act.put, s1_, s2_, s3_, ka_, la_]
    rfl
   refine pa_ (i := 8) (N := some 78) (v := ?_) (a' := ?_) (f_ 12 9) rfl rfl (by kernel_rfl) (fun _ _ _ h => h) (Or.inl ⟨by rfl, ?_⟩) ?_ ?_
   rotate_left
   ·intro w'
    go_simp
    try with_reducible rfl
   rotate_left
   ·simp only [Act.put, s1_, s2_, s3_, ka_, la_]
    rfl
   refine pa_ (i := 10) (N := some 83) (v := ?_) (a' := ?_) #[true, true, true, true, true, true, true, true, true, false, true, false] rfl rfl (by kernel_rfl) (fun _ _ _ h => h) (Or.inl ⟨by rfl, ?_⟩) ?_ ?_
   rotate_left
   ·intro w'
    go_simp
    try with_reducible rfl
   rotate_left
   ·simp only [Act.put, s1_, s2_, s3_, ka_, la_]
    rfl
   refine kg_ (i := 9) (N := some 82) (f_ 12 11) rfl rfl (by kernel_rfl) (by decide) (fun K hK => ?_)
   refine Kd.R_append_rows_step (Kd.int .i64) (w0 := P.w0) P.base (by rfl) (.tmp 78) (.tmp 80) 23 3 (.int .i64 0) 8 rfl Tryz.underlying23 ae_ rfl (by decide) (by omega) ((mget em ((i : Int), (d : Int), (f : Int))).getD (.slice none 0 0)) ((st.ends i d f).map fun (q : Nat) => (q : Int)) [(t : Int)] (some ⟨W5.drew.heap.size, 0, none⟩) 1 1 (fun k => some k = ((mget em ((i : Int), (d : Int), (f : Int))).getD (.slice none 0 0)).ownBlock ∨ (W5.drew.alloc (.cells #[.int .i64 (t : Int)] 3)).heap.size ≤ k) (fun _ => False) rfl rfl HROW.out.1 (nc_ (d := Kd.int .i64) (xs := [(t : Int)]) (cs := [.int .i64 (t : Int)]) HBK1.out (by simp) (of_ rfl rfl)) (fun _ _ h => h) (fun _ hk => hk.elim) (fun k hk => .inr (Nat.le_trans (Nat.le_of_eq HS1.out.symm) hk)) HROW.out.2 HROW.out.2.size (by have := HEO.out.len i d f; simp only [List.length_map]; omega) (fun v1 w2 hR2 hB2 hg2 _ => ?_)
   obtain ⟨m1, hm1⟩ := HM1.out
   have hne : some P.b5 ≠ ((mget em ((i : Int), (d : Int), (f : Int))).getD (.slice none 0 0)).ownBlock := fun e => by
    obtain ⟨c, hc⟩ := Kd.R_typed HROW.out.1 _ e.symm
    exact hm1.no_cells _ _ _ hc
   obtain ⟨w3, hrun3, hM3, hg3, _⟩ := HST.out w2 (hg2.block P.b5 hm1.lt hne) v1
   have HD6 := Aside0.mk (end_done HTe.out i d f t HG1.out HS1.out hm1 hR2 hB2 hg2 hM3 hg3)
   clear hm1 hne hR2 hB2 hg2 hM3 hg3
   refine hK.out _ _ ?_
   clear hK K
   refine rb_ (a' := ?_) ?_ ?_
   rotate_left
   ·show Act.put _ (some 82) _ = _
    simp only [Act.put, s1_, s2_, s3_, ka_, la_]
    rfl
   refine kg_ (i := 11) (N := none) (f_ 12 12) rfl rfl (by kernel_rfl) (by decide) (fun K hK => ?_)
   refine dh_ (by rfl) (.tmp 76) (.tmp 83) (.tmp 82) 56 rfl rfl rfl rfl hrun3 ?_
   clear hrun3
   refine hK.out _ _ ?_
   clear hK K
   refine je_ (by kernel_rfl) ?_
   have HT6 := Aside0.mk HD6.out.1
   have HC6 := Aside0.mk (((HC5.out.drewN 1).trans (Calm.below (ba_ (Below.refl _ W5.drew) (.cells #[.int .i64 (t : Int)] 3)))).trans HD6.out.2)
   have HBX6 := Aside0.mk (((Calm.below (ba_ (Below.refl _ W5.drew) (.cells #[.int .i64 (t : Int)] 3))).trans HD6.out.2).blk (k := g) HBX5.out (by decide))
   have HEM6 : Aside0 (∀ k, k ≠ ((i : Int), (d : Int), (f : Int)) → mget (mput em ((i : Int), (d : Int), (f : Int)) v1) k = mget em k) := ⟨fun k hk => vb_ _ _ _ hk _⟩
   have HFIN := Aside0.mk (vp_ (st := st) (rules := P.rl) (most := P.most) (i := i) (d := d) (f := f) (t := t) (v := v) (by omega) (by rw [(ag_ P i hi).1]; have := HDL.out; omega) HZ.out rfl)
   clear r0 r1 r2 r3 HT5 HBX5 HC5 HTd HLT HTe HE HG1 HS1 HM1 HST HBK1 HROW HD6 HZ hHeld
   generalize ({ st with ends := fun i' d' f' => if i' = i ∧ d' = d ∧ f' = f then st.ends i d f ++ [t] else st.ends i' d' f' } : Chart.St) = st6 at *
   generalize mput em ((i : Int), (d : Int), (f : Int)) v1 = em6 at *
   go_wp2
   generalize w3 = W6 at *
  rotate_left
  focus
   have hzb : ((st.items i d f t : Int) == 0) = false := by simp; omega
   have HZ := Aside0.mk hz
   clear hz
   go_quiet (fail)
   go_wp2
   obtain ⟨em6, st6, hem, hst⟩ : ∃ (e : List (Key3 × Value)) (s : Chart.St), e = em ∧ s = st := ⟨_, _, rfl, rfl⟩
   have HT6 : Aside0 (Tab P (W4.drewN nq) st6 im4 em6) := ⟨by rw [hem, hst]; exact HT4.out.drewN nq⟩
   have HBX6 := Aside0.mk (show (W4.drewN nq).heap[g]? = some (.cells #[.int .i64 (i : Int), .int .i64 (d : Int), .int .i64 (f : Int)] 134 (0, 0)) from HBX4.out)
   have HC6 := Aside0.mk (HC4.out.drewN nq)
   have HEM6 : Aside0 (∀ k, k ≠ ((i : Int), (d : Int), (f : Int)) → mget em6 k = mget em k) := ⟨fun k hk => by rw [hem]⟩
   have HFIN : Aside0 (({ st6 with items := fun i' d' f' t' => if i' = i ∧ d' = d ∧ f' = f ∧ t' = t then Chart.cap P.most (st6.items i d f t + v) else st6.items i' d' f' t' } : Chart.St) = st.add P.rl P.most i d f t v) := ⟨by
    rw [hst]
    exact up_ (st := st) (rules := P.rl) (most := P.most) (i := i) (d := d) (f := f) (t := t) (v := v) (by omega) (by rw [(ag_ P i hi).1]; have := HDL.out; omega) HZ.out⟩
   clear r0 r1 r2 r3 hl1 hl2 hzb HT4 HBX4 HC4 HZ hem hst
   generalize W4.drewN nq = W6 at *
  all_goals
   have HT7 : Aside0 (Tab P W6.drew st6 im4 em6) := ⟨HT6.out.drewN 1⟩
   have r0 : W6.cell? ⟨P.tb, 4, none⟩ = some (.map (some P.b4)) := HT6.out.cell 4 _ rfl
   have r1 : W6.cell? ⟨g, 0, none⟩ = some (.int .i64 (i : Int)) := ca_ HBX6.out 0
   have r2 : W6.cell? ⟨g, 1, none⟩ = some (.int .i64 (d : Int)) := ca_ HBX6.out 1
   have r3 : W6.cell? ⟨g, 2, none⟩ = some (.int .i64 (f : Int)) := ca_ HBX6.out 2
   have hl := HT7.out.items.lookup we_ wc_ Tryz.underlying55 (vi_ W6.drew) ((i : Int), (d : Int), (f : Int)) HKEY.out false
   have hmm := re_ (fun b : Nat => Value.map (some b)) ((i : Int), (d : Int), (f : Int)) im4
   simp only [hmm, HIM4.out, Bool.false_eq_true, if_false, Option.map_some, Option.getD_some] at hl
   have hl1 : (Instr.lookup 55 (.map (some P.b4)) (.agg #[.int .i64 (i : Int), .int .i64 (d : Int), .int .i64 (f : Int)]) false).run Tryz.prog W6.drew = .ok (.map (some b)) W6.drew := hl
   obtain ⟨m4, hM4, hget4, hput⟩ := HT7.out.putItem i d f t HIM4.out
   have hl2 := hM4.lookup chInt (fun x y e => by injection e) Tryz.underlying126 (rd_ W6.drew) (t : Int) (xh_ ⟨by omega, by omega⟩) false
   simp only [se_, Bool.false_eq_true, if_false, hget4] at hl2
   have HM := Aside0.mk hM4
   have HP := Aside0.mk hput
   have hkt := xh_ (a := (t : Int)) ⟨by omega, by omega⟩
   clear hl hmm hM4 hget4 hput
   have hc := gq_ P W6.drew st6 im4 em6 HT7.out (st6.items i d f t) v (HT7.out.low2 _ _ _ _) hvm
   go_still_tail 18, (by kernel_rfl)
   still_call (hc.mono fun _ _ h => h)
   repeat still_step
   refine wpStill_nil ?_
   refine ud_ (b := b) (enc := Value.int .i64) (m := encC m4) rfl (.tmp 89) (.tmp 90) (.tmp 101) 126 3 rfl chInt (fun x y e => by injection e) Tryz.underlying126 rfl HM.out (t : Int) rfl hkt (.int .i64 (Chart.cap P.most (st6.items i d f t + v) : Int)) rfl (fun W8 hM8 hg8 hs8 => ?_)
   have HT := Aside0.mk (HP.out W8 (Chart.cap P.most (st6.items i d f t + v)) (by unfold Chart.cap; omega) hM8 hg8)
   have HC8 := Aside0.mk (HC6.out.trans (Calm.map (W := W6.drew) HM.out hg8))
   clear hM8 hg8 hs8
   go_wp2
   refine bodyPost_ret (results_none rfl _ _ _) rfl ?_
   refine ⟨rfl, im4, em6, ?_, HEM6.out, HC8.out⟩
   have hT := HT.out
   rw [HFIN.out] at hT
   exact hT
theorem sm_ (P : TabP) (W : World) (st : Chart.St) (im : List (Key3 × Nat)) (em : List (Key3 × Value)) (h : Tab P W st im em) (heo : EndsOk st) (i d f t v : Nat) (hi : i < P.rules.length) (hvm : v ≤ P.most) (hd : d ≤ P.rules[i].f1.length) (hf2 : f ≤ 1000000) (ht2 : t ≤ 1000000) :
  Calls Tryz.prog 83 #[.pointer (some ⟨P.tb, 0, none⟩), .agg #[.int .i64 (i : Int), .int .i64 (d : Int), .int .i64 (f : Int)], .int .i64 (t : Int), .int .i64 (v : Int)] W fun e W' => tu_ P em ((i : Int), (d : Int), (f : Int)) (st.add P.rl P.most i d f t v) W e W' := by
 have hi2 : i ≤ 1000000 := by have := h.ok.rulesN; omega
 have hd2 : d ≤ 1000000 := by have := (h.ok.syms _ (List.getElem_mem hi)).2.2; omega
 by_cases hv : v = 0
 ·subst hv
  refine (ln_ P W st im em h i d f t).mono ?_
  rintro e W' ⟨h1, h2, h3⟩
  refine ⟨h1, im, em, ?_, fun _ _ => rfl, h3⟩
  rw [Chart.add_zero]
  exact h2
 by_cases hde : d = P.rules[i].f1.length
 ·refine (nn_ P W st im em h i d f t v hi (by omega) hvm hde hi2 hd2 hf2 ht2).mono ?_
  rintro e W' ⟨h1, h2, h3⟩
  exact ⟨h1, im, em, h2, fun _ _ => rfl, h3⟩
 exact mn_ P W st im em h heo i d f t v hi (by omega) hvm (by omega) hi2 hd2 hf2 ht2
def qj_ (P : TabP) (st : Chart.St) (W : World) (e : Ending) (W' : World) : Prop :=
 e = .returned (.tuple #[]) ∧ ∃ im' em', Tab P W' st im' em' ∧ Calm W W'
def ke_ (P : TabP) (st : Chart.St) (W W' : World) : Prop := ∃ im' em', Tab P W' st im' em' ∧ Calm W W'
theorem Tab.of_le {P : TabP} {W : World} {st : Chart.St} {im : List (Key3 × Nat)} {em : List (Key3 × Value)} (h : Tab P W st im em) (x : Int) (p q : Nat) : st.of P.T P.most x p q ≤ P.most := by
 unfold Chart.St.of
 split
 ·exact Chart.cap_le _ _
 exact h.low x p q
theorem EndsOk.alone {st : Chart.St} (h : EndsOk st) (T : Int → Nat → Nat → Nat) {rules : List (Int × List Int)} {most : Nat} (hm : 0 < most) (s : Int) (f t : Nat) (ht : t ≤ 1000000) : ∀ k, EndsOk (st.alone T rules most s f t k)
 | 0 => h
 | k + 1 => by
  have ih := h.alone T (rules := rules) hm s f t ht k
  unfold Chart.St.alone
  dsimp only
  split
  ·exact ih.add hm _ _ _ _ _ ht
  exact ih
theorem EndsOk.begun {st : Chart.St} (h : EndsOk st) (T : Int → Nat → Nat → Nat) {rules : List (Int × List Int)} {most : Nat} (hm : 0 < most) (f t : Nat) (ht : t ≤ 1000000) : ∀ k, EndsOk (st.begun T rules most f t k)
 | 0 => h
 | k + 1 => by
  have ih := h.begun T (rules := rules) hm f t ht k
  unfold Chart.St.begun
  dsimp only
  split
  ·exact ih.add hm _ _ _ _ _ ht
  exact ih
set_option maxHeartbeats 4000000 in
set_option maxRecDepth 100000 in
theorem qt_ (P : TabP) (W : World) (st : Chart.St) (im : List (Key3 × Nat)) (em : List (Key3 × Value)) (h : Tab P W st im em) (heo : EndsOk st) (s : Int) (f t : Nat) (hs : ie_ s) (hf : f ≤ 1000000) (ht : t ≤ 1000000) :
  Calls Tryz.prog 58 #[.pointer (some ⟨P.tb, 0, none⟩), .int .i64 s, .int .i64 (f : Int), .int .i64 (t : Int)] W fun e W' => qj_ P (st.alone P.T P.rl P.most s f t P.rules.length) W e W' := by
 obtain ⟨Ar, hAr⟩ : ∃ A, A = P.Ar := ⟨_, rfl⟩
 have c0 : W.cell? ⟨P.tb, 0, none⟩ = some (.slice Ar P.rules.length P.cr) := by rw [hAr]; exact h.cell 0 _ rfl
 have HT0 : Aside0 (ke_ P (st.alone P.T P.rl P.most s f t 0) W W) := ⟨im, em, h, Calm.refl W⟩
 have HOK := Aside0.mk h.ok
 have HEO := Aside0.mk heo
 have HAR := Aside0.mk hAr
 have hlen := h.ok.rulesN
 clear h heo hAr
 go_enter Tryz.func58, Tryz.ntmps58
 go_wp2
 clear c0
 go_loopg [15] P.rules.length (fun gg s15 wr => ∃ kk : Nat, kk ≤ P.rules.length ∧ P.rules.length - kk ≤ gg ∧ s15 = .int .i64 kk ∧ Aside0 (ke_ P (st.alone P.T P.rl P.most s f t kk) W wr))
 case atStart => exact ⟨0, Nat.zero_le _, by omega, rfl, HT0⟩
 clear HT0
 obtain ⟨kk, hkk, hgg, rfl, HT⟩ := hrel
 by_cases hlt : kk < P.rules.length
 ·have hltz : (kk : Int) < (P.rules.length : Int) := by omega
  obtain ⟨im1, em1, hT, hC⟩ := HT.out
  obtain ⟨ad, A1, c1, A3, c3, hA, h0, h1, h2, h3, h4, l1, g1, l3, g3⟩ := sf_ (Kd.C_below HOK.out.rulesC hT.below) kk (by omega) hltz
  rw [← HAR.out] at hA
  subst hA
  have hx : qb_ P.rules kk = P.rules[kk] := by simp [qb_, List.getD_eq_getElem?_getD, List.getElem?_eq_getElem hlt]
  have hsy := HOK.out.syms _ (List.getElem_mem hlt)
  rw [← hx] at hsy
  have HX := Aside0.mk hx
  generalize qb_ P.rules kk = y at *
  rw [Int.toNat_natCast] at h0 h1 h2 h3 h4
  have HSY := Aside0.mk hsy
  have HG := Aside0.mk g1
  have HL1 := Aside0.mk l1
  have HTa := Aside0.mk (hT.belowW (ba_ (Below.refl wr.heap.size wr) (.cells #[.int .i64 y.f0, .slice A1 y.f1.length c1, .int .i64 y.f2.f0, .slice A3 y.f2.f1.length c3, .int .i64 y.f3] 48)))
  have HCa := Aside0.mk (hC.trans (Calm.below (ba_ (Below.refl wr.heap.size wr) (.cells #[.int .i64 y.f0, .slice A1 y.f1.length c1, .int .i64 y.f2.f0, .slice A3 y.f2.f1.length c3, .int .i64 y.f3] 48))))
  clear hsy hx l3 g3 l1 g1 HT hT hC
  by_cases hone : y.f0 = s ∧ y.f1.length = 1
  ·obtain ⟨rfl, ho2⟩ := hone
   have HSTP : Aside0 (st.alone P.T P.rl P.most y.f0 f t (kk + 1) = (st.alone P.T P.rl P.most y.f0 f t kk).add P.rl P.most kk 1 f t ((st.alone P.T P.rl P.most y.f0 f t kk).of P.T P.most (rd y.f1 0) f t)) := ⟨by
    have hl := ag_ P kk hlt
    rw [← HX.out] at hl
    conv => lhs; unfold Chart.St.alone
    dsimp only
    rw [hl.1, hl.2, if_pos ⟨rfl, ho2⟩]
    rfl⟩
   obtain ⟨ad1, hA1, hcell⟩ := Kd.at_int HG.out 0 (by omega) (by omega)
   have hcell' : wr.cell? ad1 = some (.int .i64 (rd y.f1 0)) := hcell
   subst hA1
   have hlx : wr.heap.size > ad1.block := World.block_lt_of_cell? wr _ hcell'
   have hce : (wr.alloc (.cells #[.int .i64 y.f0, .slice (some ad1) y.f1.length c1, .int .i64 y.f2.f0, .slice A3 y.f2.f1.length c3, .int .i64 y.f3] 48)).cell? ad1 = some (.int .i64 (rd y.f1 0)) := (World.cell?_alloc_lt _ _ _ hlx).trans hcell'
   have hob : ((y.f1.length : Int) == 1) = true := by rw [ho2]; rfl
   have hop : 0 < y.f1.length := by omega
   have hos : (rd y.f1 0) ∈ y.f1 := by
    show y.f1.getD 0 0 ∈ y.f1
    rw [List.getD_eq_getElem?_getD, List.getElem?_eq_getElem hop]
    exact List.getElem_mem _
   have HRX := Aside0.mk (HSY.out.2.1 _ hos)
   have HEOk := Aside0.mk (HEO.out.alone P.T (rules := P.rl) HOK.out.most1 y.f0 f t ht kk)
   have HHOP := Aside0.mk ho2
   have hf0 := hf
   have ht0 := ht
   clear hcell hcell' hlx hos ho2
   go_wp2_with fail
   generalize wr.alloc (.cells #[.int .i64 y.f0, .slice (some ad1) y.f1.length c1, .int .i64 y.f2.f0, .slice A3 y.f2.f1.length c3, .int .i64 y.f3] 48) = W1 at *
   generalize wr.heap.size = b at *
   refine (ep_ P W1 _ im1 em1 HTa.out (rd y.f1 0) f t HRX.out hf ht).mono ?_
   rintro e W2 ⟨rfl, ⟨⟨nd, rfl⟩⟩⟩
   have HTb := Aside0.mk (HTa.out.drewN nd)
   have HCb := Aside0.mk (HCa.out.drewN nd)
   have hv := HTa.out.of_le (rd y.f1 0) f t
   generalize (st.alone P.T P.rl P.most y.f0 f t kk).of P.T P.most (rd y.f1 0) f t = v at *
   clear HTa HCa h0 h1 h2 h3 h4 hce
   generalize W1.drewN nd = W2 at *
   go_wp2_with fail
   refine (sm_ P W2 _ im1 em1 HTb.out HEOk.out kk 1 f t v hlt hv (by have := HX.out; rw [← this]; omega) hf ht).mono ?_
   rintro e W3 ⟨rfl, im3, em3, hT3, _, hC3⟩
   have HT3 : Aside0 (ke_ P (st.alone P.T P.rl P.most y.f0 f t (kk + 1)) W W3) := ⟨im3, em3, by rw [HSTP.out]; exact hT3, HCb.out.trans hC3⟩
   clear hT3 hC3
   go_wp2_with fail
   go_roundg (P.rules.length - (kk + 1))
   case measure => omega
   case rel => exact ⟨kk + 1, by omega, by omega, by go_num, HT3⟩
  have HSTP : Aside0 (st.alone P.T P.rl P.most s f t (kk + 1) = st.alone P.T P.rl P.most s f t kk) := ⟨by
   have hl := ag_ P kk hlt
   rw [← HX.out] at hl
   conv => lhs; unfold Chart.St.alone
   dsimp only
   rw [hl.1, hl.2, if_neg hone]⟩
  have HT3 : Aside0 (ke_ P (st.alone P.T P.rl P.most s f t (kk + 1)) W (wr.alloc (.cells #[.int .i64 y.f0, .slice A1 y.f1.length c1, .int .i64 y.f2.f0, .slice A3 y.f2.f1.length c3, .int .i64 y.f3] 48))) := ⟨im1, em1, by rw [HSTP.out]; exact HTa.out, HCa.out⟩
  clear HTa HCa HSTP
  by_cases he : y.f0 = s
  ·have hob : ((y.f1.length : Int) == 1) = false := by simp; omega
   subst he
   clear hone
   go_wp2
   go_roundg (P.rules.length - (kk + 1))
   case measure => omega
   case rel => exact ⟨kk + 1, by omega, by omega, by go_num, HT3⟩
  have heb : (y.f0 == s) = false := by simpa using he
  clear hone
  go_wp2
  go_roundg (P.rules.length - (kk + 1))
  case measure => omega
  case rel => exact ⟨kk + 1, by omega, by omega, by go_num, HT3⟩
 have e : kk = P.rules.length := by omega
 have HT1 : Aside0 (ke_ P (st.alone P.T P.rl P.most s f t P.rules.length) W wr) := by rw [← e]; exact HT
 clear e
 have hltz : decide ((kk : Int) < (P.rules.length : Int)) = false := by simp; omega
 go_wp2
 refine bodyPost_ret (results_none rfl _ _ _) rfl ?_
 exact ⟨rfl, HT1.out⟩
set_option maxHeartbeats 4000000 in
set_option maxRecDepth 100000 in
theorem ot_ (P : TabP) (W : World) (st : Chart.St) (im : List (Key3 × Nat)) (em : List (Key3 × Value)) (h : Tab P W st im em) (heo : EndsOk st) (f t : Nat) (hf : f ≤ 1000000) (ht : t ≤ 1000000) :
  Calls Tryz.prog 59 #[.pointer (some ⟨P.tb, 0, none⟩), .int .i64 (f : Int), .int .i64 (t : Int)] W fun e W' => qj_ P (st.begun P.T P.rl P.most f t P.rules.length) W e W' := by
 obtain ⟨Ar, hAr⟩ : ∃ A, A = P.Ar := ⟨_, rfl⟩
 have c0 : W.cell? ⟨P.tb, 0, none⟩ = some (.slice Ar P.rules.length P.cr) := by rw [hAr]; exact h.cell 0 _ rfl
 have HT0 : Aside0 (ke_ P (st.begun P.T P.rl P.most f t 0) W W) := ⟨im, em, h, Calm.refl W⟩
 have HOK := Aside0.mk h.ok
 have HEO := Aside0.mk heo
 have HAR := Aside0.mk hAr
 have hlen := h.ok.rulesN
 clear h heo hAr
 go_enter Tryz.func59, Tryz.ntmps59
 go_wp2
 clear c0
 go_loopg [13] P.rules.length (fun gg s13 wr => ∃ kk : Nat, kk ≤ P.rules.length ∧ P.rules.length - kk ≤ gg ∧ s13 = .int .i64 kk ∧ Aside0 (ke_ P (st.begun P.T P.rl P.most f t kk) W wr))
 case atStart => exact ⟨0, Nat.zero_le _, by omega, rfl, HT0⟩
 clear HT0
 obtain ⟨kk, hkk, hgg, rfl, HT⟩ := hrel
 by_cases hlt : kk < P.rules.length
 ·have hltz : (kk : Int) < (P.rules.length : Int) := by omega
  obtain ⟨im1, em1, hT, hC⟩ := HT.out
  obtain ⟨ad, A1, c1, A3, c3, hA, h0, h1, h2, h3, h4, l1, g1, l3, g3⟩ := sf_ (Kd.C_below HOK.out.rulesC hT.below) kk (by omega) hltz
  rw [← HAR.out] at hA
  subst hA
  have hx : qb_ P.rules kk = P.rules[kk] := by simp [qb_, List.getD_eq_getElem?_getD, List.getElem?_eq_getElem hlt]
  have hsy := HOK.out.syms _ (List.getElem_mem hlt)
  rw [← hx] at hsy
  have HX := Aside0.mk hx
  generalize qb_ P.rules kk = y at *
  rw [Int.toNat_natCast] at h0 h1 h2 h3 h4
  have HSY := Aside0.mk hsy
  have HG := Aside0.mk g1
  have HL1 := Aside0.mk l1
  have HTa := Aside0.mk (hT.belowW (ba_ (Below.refl wr.heap.size wr) (.cells #[.int .i64 y.f0, .slice A1 y.f1.length c1, .int .i64 y.f2.f0, .slice A3 y.f2.f1.length c3, .int .i64 y.f3] 48)))
  have HCa := Aside0.mk (hC.trans (Calm.below (ba_ (Below.refl wr.heap.size wr) (.cells #[.int .i64 y.f0, .slice A1 y.f1.length c1, .int .i64 y.f2.f0, .slice A3 y.f2.f1.length c3, .int .i64 y.f3] 48))))
  clear hsy hx l3 g3 l1 g1 HT hT hC
  by_cases ho2 : 1 < y.f1.length
  ·skip
   have HSTP : Aside0 (st.begun P.T P.rl P.most f t (kk + 1) = (st.begun P.T P.rl P.most f t kk).add P.rl P.most kk 1 f t ((st.begun P.T P.rl P.most f t kk).of P.T P.most (rd y.f1 0) f t)) := ⟨by
    have hl := ag_ P kk hlt
    rw [← HX.out] at hl
    conv => lhs; unfold Chart.St.begun
    dsimp only
    rw [hl.1, if_pos ho2]
    rfl⟩
   obtain ⟨ad1, hA1, hcell⟩ := Kd.at_int HG.out 0 (by omega) (by omega)
   have hcell' : wr.cell? ad1 = some (.int .i64 (rd y.f1 0)) := hcell
   subst hA1
   have hlx : wr.heap.size > ad1.block := World.block_lt_of_cell? wr _ hcell'
   have hce : (wr.alloc (.cells #[.int .i64 y.f0, .slice (some ad1) y.f1.length c1, .int .i64 y.f2.f0, .slice A3 y.f2.f1.length c3, .int .i64 y.f3] 48)).cell? ad1 = some (.int .i64 (rd y.f1 0)) := (World.cell?_alloc_lt _ _ _ hlx).trans hcell'
   have hob : (1 : Int) < (y.f1.length : Int) := by omega
   have hop : 0 < y.f1.length := by omega
   have hos : (rd y.f1 0) ∈ y.f1 := by
    show y.f1.getD 0 0 ∈ y.f1
    rw [List.getD_eq_getElem?_getD, List.getElem?_eq_getElem hop]
    exact List.getElem_mem _
   have HRX := Aside0.mk (HSY.out.2.1 _ hos)
   have HEOk := Aside0.mk (HEO.out.begun P.T (rules := P.rl) HOK.out.most1 f t ht kk)
   have HHOP := Aside0.mk ho2
   have hf0 := hf
   have ht0 := ht
   clear hcell hcell' hlx hos
   go_wp2_with fail
   generalize wr.alloc (.cells #[.int .i64 y.f0, .slice (some ad1) y.f1.length c1, .int .i64 y.f2.f0, .slice A3 y.f2.f1.length c3, .int .i64 y.f3] 48) = W1 at *
   generalize wr.heap.size = b at *
   refine (ep_ P W1 _ im1 em1 HTa.out (rd y.f1 0) f t HRX.out hf ht).mono ?_
   rintro e W2 ⟨rfl, ⟨⟨nd, rfl⟩⟩⟩
   have HTb := Aside0.mk (HTa.out.drewN nd)
   have HCb := Aside0.mk (HCa.out.drewN nd)
   have hv := HTa.out.of_le (rd y.f1 0) f t
   generalize (st.begun P.T P.rl P.most f t kk).of P.T P.most (rd y.f1 0) f t = v at *
   clear HTa HCa h0 h1 h2 h3 h4 hce
   generalize W1.drewN nd = W2 at *
   go_wp2_with fail
   refine (sm_ P W2 _ im1 em1 HTb.out HEOk.out kk 1 f t v hlt hv (by have := HX.out; rw [← this]; omega) hf ht).mono ?_
   rintro e W3 ⟨rfl, im3, em3, hT3, _, hC3⟩
   have HT3 : Aside0 (ke_ P (st.begun P.T P.rl P.most f t (kk + 1)) W W3) := ⟨im3, em3, by rw [HSTP.out]; exact hT3, HCb.out.trans hC3⟩
   clear hT3 hC3
   go_wp2_with fail
   go_roundg (P.rules.length - (kk + 1))
   case measure => omega
   case rel => exact ⟨kk + 1, by omega, by omega, by go_num, HT3⟩
  have HSTP : Aside0 (st.begun P.T P.rl P.most f t (kk + 1) = st.begun P.T P.rl P.most f t kk) := ⟨by
   have hl := ag_ P kk hlt
   rw [← HX.out] at hl
   conv => lhs; unfold Chart.St.begun
   dsimp only
   rw [hl.1, if_neg ho2]⟩
  have HT3 : Aside0 (ke_ P (st.begun P.T P.rl P.most f t (kk + 1)) W (wr.alloc (.cells #[.int .i64 y.f0, .slice A1 y.f1.length c1, .int .i64 y.f2.f0, .slice A3 y.f2.f1.length c3, .int .i64 y.f3] 48))) := ⟨im1, em1, by rw [HSTP.out]; exact HTa.out, HCa.out⟩
  clear HTa HCa HSTP
  have hob : decide ((1 : Int) < (y.f1.length : Int)) = false := by simp; omega
  go_wp2
  go_roundg (P.rules.length - (kk + 1))
  case measure => omega
  case rel => exact ⟨kk + 1, by omega, by omega, by go_num, HT3⟩
 have e : kk = P.rules.length := by omega
 have HT1 : Aside0 (ke_ P (st.begun P.T P.rl P.most f t P.rules.length) W wr) := by rw [← e]; exact HT
 clear e
 have hltz : decide ((kk : Int) < (P.rules.length : Int)) = false := by simp; omega
 go_wp2
 refine bodyPost_ret (results_none rfl _ _ _) rfl ?_
 exact ⟨rfl, HT1.out⟩
theorem wp_ (rules : List (Int × List Int)) (most : Nat) (st : Chart.St) (i d f t v i' d' f' : Nat) (h : ¬ (i' = i ∧ d' = d ∧ f' = f)) : (st.add rules most i d f t v).ends i' d' f' = st.ends i' d' f' := by
 unfold Chart.St.add
 split
 ·rfl
 split
 ·rfl
 show (if i' = i ∧ d' = d ∧ f' = f ∧ st.items i d f t = 0 then _ else _) = _
 rw [if_neg (fun e => h ⟨e.1, e.2.1, e.2.2.1⟩)]
theorem em_ (T : Int → Nat → Nat → Nat) (rules : List (Int × List Int)) (most : Nat) (st : Chart.St) (i d f t m i' d' f' : Nat) (h : ¬ (i' = i ∧ d' = d ∧ f' = f)) : (st.long1 T rules most i d f t m).ends i' d' f' = st.ends i' d' f' := by
 unfold Chart.St.long1
 split
 ·exact wp_ rules most st i d f t _ i' d' f' h
 rfl
theorem EndsOk.long1 {st : Chart.St} (h : EndsOk st) (T : Int → Nat → Nat → Nat) {rules : List (Int × List Int)} {most : Nat} (hm : 0 < most) (i d f t m : Nat) (ht : t ≤ 1000000) : EndsOk (st.long1 T rules most i d f t m) := by
 unfold Chart.St.long1
 split
 ·exact h.add hm _ _ _ _ _ ht
 exact h
theorem zs_ (T : Int → Nat → Nat → Nat) {rules : List (Int × List Int)} {most : Nat} (hm : 0 < most) (i d f t : Nat) (ht : t ≤ 1000000) (hd : 1 ≤ d) : ∀ (L : List Nat) (st : Chart.St), EndsOk st →
  EndsOk (L.foldl (fun st m => st.long1 T rules most i d f t m) st) ∧ (L.foldl (fun st m => st.long1 T rules most i d f t m) st).ends i (d - 1) f = st.ends i (d - 1) f
 | [], st, h => ⟨h, rfl⟩
 | m :: L, st, h => by
  obtain ⟨h1, h2⟩ := zs_ T (rules := rules) hm i d f t ht hd L _ (h.long1 T hm i d f t m ht)
  refine ⟨h1, h2.trans ?_⟩
  exact em_ T rules most st i d f t m i (d - 1) f (fun e => by omega)
theorem EndsOk.long2 {st : Chart.St} (h : EndsOk st) (T : Int → Nat → Nat → Nat) {rules : List (Int × List Int)} {most : Nat} (hm : 0 < most) (i d f t : Nat) (ht : t ≤ 1000000) (hd : 1 ≤ d) : EndsOk (st.long2 T rules most i d f t) := (zs_ T hm i d f t ht hd _ st h).1
theorem EndsOk.long3 {st : Chart.St} (h : EndsOk st) (T : Int → Nat → Nat → Nat) {rules : List (Int × List Int)} {most : Nat} (hm : 0 < most) (i f t : Nat) (ht : t ≤ 1000000) : ∀ e, EndsOk (st.long3 T rules most i f t e)
 | 0 => h
 | e + 1 => by
  have ih := h.long3 T (rules := rules) hm i f t ht e
  unfold Chart.St.long3
  split
  ·exact ih.long2 T hm i (e + 1) f t ht (by omega)
  exact ih
theorem EndsOk.longer {st : Chart.St} (h : EndsOk st) (T : Int → Nat → Nat → Nat) {rules : List (Int × List Int)} {most : Nat} (hm : 0 < most) (f t : Nat) (ht : t ≤ 1000000) : ∀ k, EndsOk (st.longer T rules most f t k)
 | 0 => h
 | k + 1 => (h.longer T (rules := rules) hm f t ht k).long3 T hm k f t ht _
def xf_ (P : TabP) (st : Chart.St) (i d f t : Nat) (L : List Nat) : Chart.St := L.foldl (fun st m => st.long1 P.T P.rl P.most i d f t m) st
theorem ht_ (P : TabP) (st : Chart.St) (i d f t : Nat) (L : List Nat) (j : Nat) (h : j < L.length) : xf_ P st i d f t (L.take (j + 1)) = (xf_ P st i d f t (L.take j)).long1 P.T P.rl P.most i d f t L[j] := by
 unfold xf_
 rw [List.take_succ_eq_append_getElem h, List.foldl_append]
 rfl
theorem xv_ (P : TabP) (st : Chart.St) (i f t e : Nat) (he : 1 ≤ e) : st.long3 P.T P.rl P.most i f t (e + 1) = xf_ P (st.long3 P.T P.rl P.most i f t e) i (e + 1) f t ((st.long3 P.T P.rl P.most i f t e).ends i e f) := by
 conv => lhs; unfold Chart.St.long3
 rw [if_pos (by omega)]
 rfl
theorem dm_ (P : TabP) (st : Chart.St) (i f t e l : Nat) (h1 : l ≤ e) (h2 : e ≤ l ∨ e = 1) : st.long3 P.T P.rl P.most i f t e = st.long3 P.T P.rl P.most i f t l := by
 rcases h2 with h2 | rfl
 ·rw [show e = l by omega]
 rcases Nat.lt_or_ge l 1 with h3 | h3
 ·rw [show l = 0 by omega]
  conv => lhs; unfold Chart.St.long3
  exact if_neg (by decide)
 rw [show l = 1 by omega]
def as_ (P : TabP) (st : Chart.St) (W W' : World) (key : Key3) (u : Value) : Prop := ∃ im' em', Tab P W' st im' em' ∧ Calm W W' ∧ (mget em' key).getD (.slice none 0 0) = u
set_option maxHeartbeats 4000000 in
set_option maxRecDepth 100000 in
theorem hr_ (P : TabP) (W : World) (st : Chart.St) (im : List (Key3 × Nat)) (em : List (Key3 × Value)) (h : Tab P W st im em) (heo : EndsOk st) (f t : Nat) (hf : f ≤ 1000000) (ht : t ≤ 1000000) :
  Calls Tryz.prog 57 #[.pointer (some ⟨P.tb, 0, none⟩), .int .i64 (f : Int), .int .i64 (t : Int)] W fun e W' => qj_ P (st.longer P.T P.rl P.most f t P.rules.length) W e W' := by
 obtain ⟨Ar, hAr⟩ : ∃ A, A = P.Ar := ⟨_, rfl⟩
 have c0 : W.cell? ⟨P.tb, 0, none⟩ = some (.slice Ar P.rules.length P.cr) := by rw [hAr]; exact h.cell 0 _ rfl
 have HT0 : Aside0 (ke_ P (st.longer P.T P.rl P.most f t 0) W W) := ⟨im, em, h, Calm.refl W⟩
 have HOK := Aside0.mk h.ok
 have HEO := Aside0.mk heo
 have HAR := Aside0.mk hAr
 have hlen := h.ok.rulesN
 clear h heo hAr
 go_enter Tryz.func57, Tryz.ntmps57
 go_wp2
 clear c0
 go_loopg [17] P.rules.length (fun gg s17 wr => ∃ kk : Nat, kk ≤ P.rules.length ∧ P.rules.length - kk ≤ gg ∧ s17 = .int .i64 kk ∧ Aside0 (ke_ P (st.longer P.T P.rl P.most f t kk) W wr))
 case atStart => exact ⟨0, Nat.zero_le _, by omega, rfl, HT0⟩
 clear HT0
 obtain ⟨kk, hkk, hgg, rfl, HT⟩ := hrel
 by_cases hlt : kk < P.rules.length
 ·have hltz : (kk : Int) < (P.rules.length : Int) := by omega
  obtain ⟨im1, em1, hT, hC⟩ := HT.out
  obtain ⟨ad, A1, c1, A3, c3, hA, h0, h1, h2, h3, h4, l1, g1, l3, g3⟩ := sf_ HOK.out.rulesC kk (by omega) hltz
  rw [← HAR.out] at hA
  subst hA
  have hx : qb_ P.rules kk = P.rules[kk] := by simp [qb_, List.getD_eq_getElem?_getD, List.getElem?_eq_getElem hlt]
  have hsy := HOK.out.syms _ (List.getElem_mem hlt)
  rw [← hx] at hsy
  have HX := Aside0.mk hx
  generalize qb_ P.rules kk = y at *
  rw [Int.toNat_natCast] at h0 h1 h2 h3 h4
  replace h0 := eb_ hT.below h0
  replace h1 := eb_ hT.below h1
  replace h2 := eb_ hT.below h2
  replace h3 := eb_ hT.below h3
  replace h4 := eb_ hT.below h4
  have HSY := Aside0.mk hsy
  have hly := hsy.2.2
  have HG := Aside0.mk g1
  have HBX := Aside0.mk (pb_ wr (.cells #[.int .i64 y.f0, .slice A1 y.f1.length c1, .int .i64 y.f2.f0, .slice A3 y.f2.f1.length c3, .int .i64 y.f3] 48))
  have HTa : Aside0 (ke_ P ((st.longer P.T P.rl P.most f t kk).long3 P.T P.rl P.most kk f t 1) W (wr.alloc (.cells #[.int .i64 y.f0, .slice A1 y.f1.length c1, .int .i64 y.f2.f0, .slice A3 y.f2.f1.length c3, .int .i64 y.f3] 48))) :=
   ⟨im1, em1, by
    rw [show (st.longer P.T P.rl P.most f t kk).long3 P.T P.rl P.most kk f t 1 = st.longer P.T P.rl P.most f t kk from dm_ P _ kk f t 1 0 (by omega) (.inr rfl)]
    exact hT.belowW (ba_ (Below.refl wr.heap.size wr) _), hC.trans (Calm.below (ba_ (Below.refl wr.heap.size wr) _))⟩
  have HEOk := Aside0.mk (HEO.out.longer P.T (rules := P.rl) HOK.out.most1 f t ht kk)
  clear hsy hx l3 g3 l1 g1 HT hT hC
  go_wp2
  clear h0 h1 h2 h3 h4
  generalize wr.alloc (.cells #[.int .i64 y.f0, .slice A1 y.f1.length c1, .int .i64 y.f2.f0, .slice A3 y.f2.f1.length c3, .int .i64 y.f3] 48) = W1 at *
  generalize wr.heap.size = b at *
  go_loopg [8] y.f1.length (fun gg2 s8 w2 => ∃ e : Nat, 1 ≤ e ∧ (e ≤ y.f1.length ∨ e = 1) ∧ y.f1.length - e ≤ gg2 ∧ s8 = .int .i64 ((e : Int) + 1) ∧ Aside0 (ke_ P ((st.longer P.T P.rl P.most f t kk).long3 P.T P.rl P.most kk f t e) W w2) ∧ Aside0 (w2.heap[b]? = some (.cells #[.int .i64 y.f0, .slice A1 y.f1.length c1, .int .i64 y.f2.f0, .slice A3 y.f2.f1.length c3, .int .i64 y.f3] 48 (0, 0))))
  case atStart => exact ⟨1, Nat.le_refl _, .inr rfl, by omega, rfl, HTa, HBX⟩
  clear HTa HBX
  obtain ⟨e, he1, he2, hgg2, rfl, HT2, HBX2⟩ := hrel
  have hb1 : wr.cell? ⟨b, 1, none⟩ = some (.slice A1 y.f1.length c1) := ca_ HBX2.out 1
  by_cases hle : e + 1 ≤ y.f1.length
  ·have hlez : (e : Int) + 1 ≤ (y.f1.length : Int) := by omega
   go_wp2
   obtain ⟨im2, em2, hT2, hC2⟩ := HT2.out
   have HT4 := Aside0.mk (hT2.belowW (ba_ (Below.refl wr.heap.size wr) (.cells #[.int .i64 (kk : Int), .int .i64 (e : Int), .int .i64 (f : Int)] 134)))
   have HC4 := Aside0.mk (hC2.trans (Calm.below (ba_ (Below.refl wr.heap.size wr) (.cells #[.int .i64 (kk : Int), .int .i64 (e : Int), .int .i64 (f : Int)] 134))))
   have HBX4 := Aside0.mk (va_ (o' := .cells #[.int .i64 (kk : Int), .int .i64 (e : Int), .int .i64 (f : Int)] 134) HBX2.out)
   have HBL4 := Aside0.mk (pb_ wr (.cells #[.int .i64 (kk : Int), .int .i64 (e : Int), .int .i64 (f : Int)] 134))
   have HSTEP := Aside0.mk (xv_ P (st.longer P.T P.rl P.most f t kk) kk f t e he1)
   have HEOd := Aside0.mk (HEOk.out.long3 P.T (rules := P.rl) HOK.out.most1 kk f t ht e)
   clear hT2 hC2 HT2 HBX2 hb1 HEOk
   generalize (st.longer P.T P.rl P.most f t kk).long3 P.T P.rl P.most kk f t e = stD at *
   generalize wr.alloc (.cells #[.int .i64 (kk : Int), .int .i64 (e : Int), .int .i64 (f : Int)] 134) = W4 at *
   generalize wr.heap.size = g2 at *
   obtain ⟨tag, hE, _, hR⟩ := HT4.out.ends
   have hkey := fm_ (a := (kk : Int)) (b := (e : Int)) (c := (f : Int)) ⟨by omega, by omega⟩ ⟨by omega, by omega⟩ ⟨by omega, by omega⟩
   have hl := fun n => (hE.drewN n).lookup we_ wc_ Tryz.underlying56 (on_ (W4.drewN n)) ((kk : Int), (e : Int), (f : Int)) hkey false
   simp only [Bool.false_eq_true, if_false] at hl
   obtain ⟨Au, cu, hu, hlu, _⟩ := Kd.R_reads (hR kk e f)
   have hll := HEOd.out.len kk e f
   have hsm := HEOd.out.small kk e f
   have HNE := Aside0.mk (HEOd.out.ends kk e f).2
   have HKEY := Aside0.mk hkey
   have HEND := Aside0.mk (rfl : stD.ends kk e f = stD.ends kk e f)
   rw [List.length_map] at hu hlu
   have HU := Aside0.mk hu
   have hl1 : ∀ n, (Instr.lookup 56 (.map (some P.b5)) (.agg #[.int .i64 (kk : Int), .int .i64 (e : Int), .int .i64 (f : Int)]) false).run Tryz.prog (W4.drewN n) = .ok (.slice Au (stD.ends kk e f).length cu) (W4.drewN n) := by rw [← hu]; exact hl
   have HSM := Aside0.mk hsm
   have HTI : Aside0 (as_ P (xf_ P stD kk (e + 1) f t ((stD.ends kk e f).take 0)) W W4 ((kk : Int), (e : Int), (f : Int)) (.slice Au (stD.ends kk e f).length cu)) := ⟨im2, em2, HT4.out, HC4.out, hu⟩
   have c5 : W4.cell? ⟨P.tb, 5, none⟩ = some (.map (some P.b5)) := HT4.out.cell 5 _ rfl
   have e0 : W4.cell? ⟨g2, 0, none⟩ = some (.int .i64 (kk : Int)) := ca_ HBL4.out 0
   have e1 : W4.cell? ⟨g2, 1, none⟩ = some (.int .i64 (e : Int)) := ca_ HBL4.out 1
   have e2 : W4.cell? ⟨g2, 2, none⟩ = some (.int .i64 (f : Int)) := ca_ HBL4.out 2
   clear hl hE hR hkey hu hsm HEND HT4 HC4
   generalize hL : stD.ends kk e f = L at *
   have HL := Aside0.mk hL
   clear hL
   go_quiet (fail)
   go_wp2
   have HTI4 : Aside0 (as_ P (xf_ P stD kk (e + 1) f t (L.take 0)) W (W4.drewN nq) ((kk : Int), (e : Int), (f : Int)) (.slice Au L.length cu)) := ⟨by
    obtain ⟨a, b, q1, q2, q3⟩ := HTI.out
    exact ⟨a, b, q1.drewN nq, q2.drewN nq, q3⟩⟩
   have HBX5 := Aside0.mk (show (W4.drewN nq).heap[b]? = _ from HBX4.out)
   have HBL5 := Aside0.mk (show (W4.drewN nq).heap[g2]? = _ from HBL4.out)
   clear hl1 c5 e0 e1 e2 HTI HBX4 HBL4
   generalize W4.drewN nq = W5 at *
   go_loopg [41] L.length (fun gg3 s41 w3 => ∃ j : Nat, j ≤ L.length ∧ L.length - j ≤ gg3 ∧ s41 = .int .i64 j ∧ Aside0 (as_ P (xf_ P stD kk (e + 1) f t (L.take j)) W w3 ((kk : Int), (e : Int), (f : Int)) (.slice Au L.length cu)) ∧ Aside0 (w3.heap[b]? = some (.cells #[.int .i64 y.f0, .slice A1 y.f1.length c1, .int .i64 y.f2.f0, .slice A3 y.f2.f1.length c3, .int .i64 y.f3] 48 (0, 0))) ∧ Aside0 (w3.heap[g2]? = some (.cells #[.int .i64 (kk : Int), .int .i64 (e : Int), .int .i64 (f : Int)] 134 (0, 0))))
   case atStart => exact ⟨0, Nat.zero_le _, by omega, rfl, HTI4, HBX5, HBL5⟩
   clear HTI4 HBX5 HBL5
   obtain ⟨j, hj, hgg3, rfl, HTI, HBX, HBL⟩ := hrel
   by_cases hjl : j < L.length
   ·have hjlz : (j : Int) < (L.length : Int) := by omega
    obtain ⟨im3, em3, hT3, hC3, hu3⟩ := HTI.out
    have hfold := zs_ P.T (rules := P.rl) HOK.out.most1 kk (e + 1) f t ht (by omega) (L.take j) stD HEOd.out
    have HEOj : Aside0 (EndsOk (xf_ P stD kk (e + 1) f t (L.take j))) := ⟨hfold.1⟩
    have hendj : (xf_ P stD kk (e + 1) f t (L.take j)).ends kk e f = L := hfold.2.trans HL.out
    obtain ⟨tag, _, _, hR⟩ := hT3.ends
    have hRj := hR kk e f
    rw [hu3, hendj] at hRj
    have hCj := (Kd.R_reads' hRj).2.2
    rw [List.length_map] at hCj
    obtain ⟨ad3, hA3, hcell3⟩ := Kd.at_int hCj (j : Int) (by omega) (by omega)
    subst hA3
    have hrd : rd (L.map fun (q : Nat) => (q : Int)) (j : Int) = ((L[j] : Nat) : Int) := by
     show (L.map fun (q : Nat) => (q : Int)).getD (j : Int).toNat 0 = _
     rw [Int.toNat_natCast, List.getD_eq_getElem?_getD, List.getElem?_map, List.getElem?_eq_getElem hjl]
     rfl
    rw [hrd, Int.toNat_natCast] at hcell3
    have hmem : L[j] ∈ L := List.getElem_mem hjl
    have hm6 := HSM.out _ hmem
    have hne : (xf_ P stD kk (e + 1) f t (L.take j)).items kk e f L[j] ≠ 0 := ((HEOj.out.ends kk e f).2 L[j]).1 (by rw [hendj]; exact hmem)
    have hsn := ht_ P stD kk (e + 1) f t L j hjl
    generalize L[j] = m at *
    clear hfold hendj hR hRj hCj hrd hmem HTI
    generalize xf_ P stD kk (e + 1) f t (L.take j) = stJ at *
    have HT3 := Aside0.mk hT3
    have HC3 := Aside0.mk hC3
    have HU3 := Aside0.mk hu3
    have HSN := Aside0.mk hsn
    have HNJ := Aside0.mk hne
    clear hT3 hC3 hu3 hsn hne
    by_cases hmt : m < t
    ·have hmtz : (m : Int) < (t : Int) := by omega
     have hm7 : m ≤ 1000000 := hm6
     have HT7 : Aside0 (Tab P wr.drew stJ im3 em3) := ⟨HT3.out.drewN 1⟩
     obtain ⟨bi, hbi⟩ : ∃ bi, mget im3 ((kk : Int), (e : Int), (f : Int)) = some bi := by
      rcases hmg : mget im3 ((kk : Int), (e : Int), (f : Int)) with _ | bi
      ·exact absurd (HT7.out.absent kk e f hmg m) HNJ.out
      exact ⟨bi, rfl⟩
     obtain ⟨ad1, hA1, hcellR⟩ := Kd.at_int (Kd.C_below HG.out HT7.out.below) (e : Int) (by omega) (by omega)
     subst hA1
     have hop : e < y.f1.length := by omega
     have hos : (rd y.f1 (e : Int)) ∈ y.f1 := by
      show y.f1.getD (e : Int).toNat 0 ∈ y.f1
      rw [Int.toNat_natCast, List.getD_eq_getElem?_getD, List.getElem?_eq_getElem hop]
      exact List.getElem_mem _
     have HRX := Aside0.mk (HSY.out.2.1 _ hos)
     have hrhs : (Chart.rhsOf P.rl kk).getD (e + 1 - 1) 0 = rd y.f1 (e : Int) := by
      rw [(ag_ P kk hlt).1, ← HX.out]
      rfl
     have HSN7 : Aside0 (xf_ P stD kk (e + 1) f t (L.take (j + 1)) = stJ.add P.rl P.most kk (e + 1) f t (Chart.cap P.most (stJ.items kk e f m * stJ.of P.T P.most (rd y.f1 (e : Int)) m t))) := ⟨by
      rw [HSN.out]
      conv => lhs; unfold Chart.St.long1
      rw [if_pos hmt, hrhs]
      rfl⟩
     rw [Int.toNat_natCast] at hcellR
     generalize rd y.f1 (e : Int) = x at *
     have hl := fun n => (HT7.out.items.drewN n).lookup we_ wc_ Tryz.underlying55 (vi_ (wr.drew.drewN n)) ((kk : Int), (e : Int), (f : Int)) HKEY.out false
     have hmm := re_ (fun b : Nat => Value.map (some b)) ((kk : Int), (e : Int), (f : Int)) im3
     simp only [hmm, hbi, Bool.false_eq_true, if_false, Option.map_some, Option.getD_some] at hl
     have hl1 : ∀ n, (Instr.lookup 55 (.map (some P.b4)) (.agg #[.int .i64 (kk : Int), .int .i64 (e : Int), .int .i64 (f : Int)]) false).run Tryz.prog (wr.drew.drewN n) = .ok (.map (some bi)) (wr.drew.drewN n) := hl
     obtain ⟨m4, hM4, hget4, _⟩ := HT7.out.putItem kk e f t hbi
     have hl2 := fun n => (hM4.drewN n).lookup chInt (fun x y e => by injection e) Tryz.underlying126 (rd_ (wr.drew.drewN n)) (m : Int) (xh_ ⟨by omega, by omega⟩) false
     simp only [se_, Bool.false_eq_true, if_false, hget4] at hl2
     have HL1 := Aside0.mk hl1
     have HL2 := Aside0.mk hl2
     have HC7 : Aside0 (Calm W wr.drew) := ⟨HC3.out.drewN 1⟩
     have HBX7 : Aside0 (wr.drew.heap[b]? = some (.cells #[.int .i64 y.f0, .slice (some ad1) y.f1.length c1, .int .i64 y.f2.f0, .slice A3 y.f2.f1.length c3, .int .i64 y.f3] 48 (0, 0))) := ⟨HBX.out⟩
     have HBL7 : Aside0 (wr.drew.heap[g2]? = some (.cells #[.int .i64 (kk : Int), .int .i64 (e : Int), .int .i64 (f : Int)] 134 (0, 0))) := ⟨HBL.out⟩
     have r0 : wr.drew.cell? ⟨P.tb, 4, none⟩ = some (.map (some P.b4)) := HT7.out.cell 4 _ rfl
     have r1 : wr.drew.cell? ⟨g2, 0, none⟩ = some (.int .i64 (kk : Int)) := ca_ HBL7.out 0
     have r2 : wr.drew.cell? ⟨g2, 1, none⟩ = some (.int .i64 (e : Int)) := ca_ HBL7.out 1
     have r3 : wr.drew.cell? ⟨g2, 2, none⟩ = some (.int .i64 (f : Int)) := ca_ HBL7.out 2
     have r4 : wr.drew.cell? ⟨b, 1, none⟩ = some (.slice (some ad1) y.f1.length c1) := ca_ HBX7.out 1
     have r5 : wr.drew.cell? (ad1.add e) = some (.int .i64 x) := hcellR
     have r6 : (Instr.lookup 55 (.map (some P.b4)) (.agg #[.int .i64 (kk : Int), .int .i64 (e : Int), .int .i64 (f : Int)]) false).run Tryz.prog wr.drew = .ok (.map (some bi)) wr.drew := hl1 0
     have r7 : (Instr.lookup 126 (.map (some bi)) (.int .i64 (m : Int)) false).run Tryz.prog wr.drew = .ok (.int .i64 (stJ.items kk e f m : Int)) wr.drew := hl2 0
     have HBI := Aside0.mk hbi
     have hv0 := HT7.out.low2 kk e f m
     have hv1 := HT7.out.of_le x m t
     clear hbi hos hrhs hl hmm hl1 hM4 hget4 hl2 hcellR HC3 HBX HBL HSN HNJ HT3
     generalize hv0e : stJ.items kk e f m = v0 at *
     generalize hv1e : stJ.of P.T P.most x m t = v1 at *
     have HV0 := Aside0.mk hv0e
     have HV1 := Aside0.mk hv1e
     clear hv0e hv1e
     go_wp2
     refine td_ (n := 27) (S := fun w' => w'.cell? ⟨P.tb, 4, none⟩ = some (.map (some P.b4)) ∧ w'.cell? ⟨g2, 0, none⟩ = some (.int .i64 (kk : Int)) ∧ w'.cell? ⟨g2, 1, none⟩ = some (.int .i64 (e : Int)) ∧ w'.cell? ⟨g2, 2, none⟩ = some (.int .i64 (f : Int)) ∧ w'.cell? ⟨b, 1, none⟩ = some (.slice (some ad1) y.f1.length c1) ∧ w'.cell? (ad1.add e) = some (.int .i64 x) ∧ (Instr.lookup 55 (.map (some P.b4)) (.agg #[.int .i64 (kk : Int), .int .i64 (e : Int), .int .i64 (f : Int)]) false).run Tryz.prog w' = .ok (.map (some bi)) w' ∧ (Instr.lookup 126 (.map (some bi)) (.int .i64 (m : Int)) false).run Tryz.prog w' = .ok (.int .i64 (v0 : Int)) w') (ds := [26]) (f_ 27 0) (by kernel_rfl) rfl rfl ⟨r0, r1, r2, r3, r4, r5, r6, r7⟩ (fun hHeld => ?_)
     clear r0 r1 r2 r3 r4 r5 r6 r7
     have hez : (e : Int) < (y.f1.length : Int) := by omega
     have hwe : wrap64 (e : Int) = (e : Int) := by unfold wrap64; omega
     generalize wr.drew = W7 at *
     refine pa_ (i := 0) (N := some 48) (v := ?_) (a' := ?_) (f_ 27 1) rfl rfl (by kernel_rfl) (fun _ _ _ h => h) (Or.inl ⟨by rfl, ?_⟩) ?_ ?_
     rotate_left
     ·intro w'
      go_simp
      try with_reducible rfl
     rotate_left
     ·simp only [Act.put, s1_, s2_, s3_, ka_, la_]
      rfl
     refine pa_ (i := 1) (N := some 49) (v := ?_) (a' := ?_) (f_ 27 2) rfl rfl (by kernel_rfl) (fun _ _ _ h => h) (Or.inl ⟨by rfl, ?_⟩) ?_ ?_
     rotate_left
     ·intro w'
      go_simp
      try with_reducible rfl
     rotate_left
     ·simp only [Act.put, s1_, s2_, s3_, ka_, la_]
      rfl
     refine pa_ (i := 2) (N := some 50) (v := ?_) (a' := ?_) (f_ 27 3) rfl rfl (by kernel_rfl) (fun _ _ _ h => h) (Or.inl ⟨by rfl, ?_⟩) ?_ ?_
     rotate_left
     ·intro w'
      go_simp
      try with_reducible rfl
     rotate_left
     ·simp only [Act.put, s1_, s2_, s3_, ka_, la_]
      rfl
     refine pa_ (i := 3) (N := some 51) (v := ?_) (a' := ?_) (f_ 27 4) rfl rfl (by kernel_rfl) (fun _ _ _ h => h) (Or.inl ⟨by rfl, ?_⟩) ?_ ?_
     rotate_left
     ·intro w'
      go_simp
      try with_reducible rfl
     rotate_left
     ·simp only [Act.put, s1_, s2_, s3_, ka_, la_]
      rfl
     refine pa_ (i := 4) (N := some 52) (v := ?_) (a' := ?_) (f_ 27 5) rfl rfl (by kernel_rfl) (fun _ _ _ h => h) (Or.inl ⟨by rfl, ?_⟩) ?_ ?_
     rotate_left
     ·intro w'
      go_simp
      try with_reducible rfl
     rotate_left
     ·simp only [Act.put, s1_, s2_, s3_, ka_, la_]
      rfl
     refine pa_ (i := 5) (N := some 53) (v := ?_) (a' := ?_) (f_ 27 6) rfl rfl (by kernel_rfl) (fun _ _ _ h => h) (Or.inl ⟨by rfl, ?_⟩) ?_ ?_
     rotate_left
     ·intro w'
      go_simp
      try with_reducible rfl
     rotate_left
     ·simp only [Act.put, s1_, s2_, s3_, ka_, la_]
      rfl
     refine pa_ (i := 6) (N := some 54) (v := ?_) (a' := ?_) (f_ 27 7) rfl rfl (by kernel_rfl) (fun _ _ _ h => h) (Or.inl ⟨by rfl, ?_⟩) ?_ ?_
     rotate_left
     ·intro w'
      go_simp
      try with_reducible rfl
     rotate_left
     ·simp only [Act.put, s1_, s2_, s3_, ka_, la_]
      rfl
     refine pa_ (i := 7) (N := some 55) (v := ?_) (a' := ?_) (f_ 27 8) rfl rfl (by kernel_rfl) (fun _ _ _ h => h) (Or.inl ⟨by rfl, ?_⟩) ?_ ?_
     rotate_left
     ·intro w'
      go_simp
      try with_reducible rfl
     rotate_left
     ·simp only [Act.put, s1_, s2_, s3_, ka_, la_]
      rfl
     refine pa_ (i := 8) (N := some 56) (v := ?_) (a' := ?_) (f_ 27 9) rfl rfl (by kernel_rfl) (fun _ _ _ h => h) (Or.inl ⟨by rfl, ?_⟩) ?_ ?_
     rotate_left
     ·intro w'
      go_simp
      try with_reducible rfl
     rotate_left
     ·simp only [Act.put, s1_, s2_, s3_, ka_, la_]
      rfl
     refine pa_ (i := 9) (N := some 57) (v := ?_) (a' := ?_) (f_ 27 10) rfl rfl (by kernel_rfl) (fun _ _ _ h => h) (Or.inl ⟨by rfl, ?_⟩) ?_ ?_
     rotate_left
     ·intro w'
      go_simp
      try with_reducible rfl
     rotate_left
     ·simp only [Act.put, s1_, s2_, s3_, ka_, la_]
      rfl
     refine take_ (i := 10) (N := some 58) (v := ?_) (a' := ?_) (f_ 27 11) rfl rfl (by kernel_rfl) (fun _ _ _ h => h) (Or.inl ⟨by rfl, ?_⟩) hHeld ?_ ?_
     rotate_left
     ·rintro w' ⟨s0, s1, s2, s3, s4, s5, s6, s7⟩
      go_simp
      try with_reducible rfl
     rotate_left
     ·simp only [Act.put, s1_, s2_, s3_, ka_, la_]
      rfl
     refine take_ (i := 11) (N := some 59) (v := ?_) (a' := ?_) (f_ 27 12) rfl rfl (by kernel_rfl) (fun _ _ _ h => h) (Or.inl ⟨by rfl, ?_⟩) hHeld ?_ ?_
     rotate_left
     ·rintro w' ⟨s0, s1, s2, s3, s4, s5, s6, s7⟩
      go_simp
      try with_reducible rfl
     rotate_left
     ·simp only [Act.put, s1_, s2_, s3_, ka_, la_]
      rfl
     refine take_ (i := 12) (N := some 60) (v := ?_) (a' := ?_) (f_ 27 13) rfl rfl (by kernel_rfl) (fun _ _ _ h => h) (Or.inl ⟨by rfl, ?_⟩) hHeld ?_ ?_
     rotate_left
     ·rintro w' ⟨s0, s1, s2, s3, s4, s5, s6, s7⟩
      go_simp
      try with_reducible rfl
     rotate_left
     ·simp only [Act.put, s1_, s2_, s3_, ka_, la_]
      rfl
     refine pa_ (i := 13) (N := some 61) (v := ?_) (a' := ?_) (f_ 27 14) rfl rfl (by kernel_rfl) (fun _ _ _ h => h) (Or.inl ⟨by rfl, ?_⟩) ?_ ?_
     rotate_left
     ·intro w'
      go_simp
      try with_reducible rfl
     rotate_left
     ·simp only [Act.put, s1_, s2_, s3_, ka_, la_]
      rfl
     refine take_ (i := 14) (N := some 62) (v := ?_) (a' := ?_) (f_ 27 15) rfl rfl (by kernel_rfl) (fun _ _ _ h => h) (Or.inl ⟨by rfl, ?_⟩) hHeld ?_ ?_
     rotate_left
     ·rintro w' ⟨s0, s1, s2, s3, s4, s5, s6, s7⟩
      go_simp
      try with_reducible rfl
     rotate_left
     ·simp only [Act.put, s1_, s2_, s3_, ka_, la_]
      rfl
     refine pa_ (i := 15) (N := some 63) (v := ?_) (a' := ?_) (f_ 27 16) rfl rfl (by kernel_rfl) (fun _ _ _ h => h) (Or.inl ⟨by rfl, ?_⟩) ?_ ?_
     rotate_left
     ·intro w'
      go_simp
      try with_reducible rfl
     rotate_left
     ·simp only [Act.put, s1_, s2_, s3_, ka_, la_]
      rfl
     refine pa_ (i := 16) (N := some 64) (v := ?_) (a' := ?_) (f_ 27 17) rfl rfl (by kernel_rfl) (fun _ _ _ h => h) (Or.inl ⟨by rfl, ?_⟩) ?_ ?_
     rotate_left
     ·intro w'
      go_simp
      try with_reducible rfl
     rotate_left
     ·simp only [Act.put, s1_, s2_, s3_, ka_, la_]
      rfl
     refine take_ (i := 17) (N := some 65) (v := ?_) (a' := ?_) (f_ 27 18) rfl rfl (by kernel_rfl) (fun _ _ _ h => h) (Or.inl ⟨by rfl, ?_⟩) hHeld ?_ ?_
     rotate_left
     ·rintro w' ⟨s0, s1, s2, s3, s4, s5, s6, s7⟩
      go_simp
      try with_reducible rfl
     rotate_left
     ·simp only [Act.put, s1_, s2_, s3_, ka_, la_]
      rfl
     refine pa_ (i := 18) (N := some 66) (v := ?_) (a' := ?_) (f_ 27 19) rfl rfl (by kernel_rfl) (fun _ _ _ h => h) (Or.inl ⟨by rfl, ?_⟩) ?_ ?_
     rotate_left
     ·intro w'
      go_simp
      try with_reducible rfl
     rotate_left
     ·simp only [Act.put, s1_, s2_, s3_, ka_, la_]
      rfl
     refine pa_ (i := 19) (N := some 67) (v := ?_) (a' := ?_) (f_ 27 20) rfl rfl (by kernel_rfl) (fun _ _ _ h => h) (Or.inl ⟨by rfl, ?_⟩) ?_ ?_
     rotate_left
     ·intro w'
      go_simp
      try with_reducible rfl
     rotate_left
     ·simp only [Act.put, s1_, s2_, s3_, ka_, la_]
      rfl
     refine pa_ (i := 20) (N := some 68) (v := ?_) (a' := ?_) (f_ 27 21) rfl rfl (by kernel_rfl) (fun _ _ _ h => h) (Or.inl ⟨by rfl, ?_⟩) ?_ ?_
     rotate_left
     ·intro w'
      go_simp
      try with_reducible rfl
     rotate_left
     ·simp only [Act.put, s1_, s2_, s3_, ka_, la_]
      rfl
     refine take_ (i := 21) (N := some 69) (v := ?_) (a' := ?_) (f_ 27 22) rfl rfl (by kernel_rfl) (fun _ _ _ h => h) (Or.inl ⟨by rfl, ?_⟩) hHeld ?_ ?_
     rotate_left
     ·rintro w' ⟨s0, s1, s2, s3, s4, s5, s6, s7⟩
      go_simp
      try with_reducible rfl
     rotate_left
     ·simp only [Act.put, s1_, s2_, s3_, ka_, la_]
      rfl
     refine pa_ (i := 22) (N := some 70) (v := ?_) (a' := ?_) (f_ 27 23) rfl rfl (by kernel_rfl) (fun _ _ _ h => h) (Or.inl ⟨by rfl, ?_⟩) ?_ ?_
     rotate_left
     ·intro w'
      go_simp
      try with_reducible rfl
     rotate_left
     ·simp only [Act.put, s1_, s2_, s3_, ka_, la_]
      rfl
     refine pa_ (i := 23) (N := some 71) (v := ?_) (a' := ?_) (f_ 27 24) rfl rfl (by kernel_rfl) (fun _ _ _ h => h) (Or.inl ⟨by rfl, ?_⟩) ?_ ?_
     rotate_left
     ·intro w'
      go_simp
      try with_reducible rfl
     rotate_left
     ·simp only [Act.put, s1_, s2_, s3_, ka_, la_]
      rfl
     refine one_ (i := 24) (N := some 72) (f_ 27 25) rfl rfl (by kernel_rfl) (by decide) (fun K hK => ?_)
     clear hwe
     refine vd_ Tryz.func85 (by kernel_rfl) rfl #[.pointer (some ⟨P.tb, 0, none⟩), .int .i64 x, .int .i64 (m : Int), .int .i64 (t : Int)] (by rfl) rfl rfl (by (try simp only [List.map_toArray, List.map_cons, List.map_nil]); rfl) ?_
     refine (ep_ P W7 stJ im3 em3 HT7.out x m t HRX.out hm7 ht).mono ?_
     rintro e' W8 ⟨rfl, ⟨⟨nd, rfl⟩⟩⟩
     rw [HV1.out]
     have HT8 := Aside0.mk (HT7.out.drewN nd)
     refine ⟨_, rfl, ?_⟩
     refine hK.out _ _ ⟨hHeld.1, hHeld.2.1, hHeld.2.2.1, hHeld.2.2.2.1, hHeld.2.2.2.2.1, hHeld.2.2.2.2.2.1, HL1.out nd, HL2.out nd⟩ (fun hHeld => ?_)
     clear hK K
     refine rb_ (a' := ?_) ?_ ?_
     rotate_left
     ·show Act.put _ (some 72) _ = _
      simp only [Act.put, s1_, s2_, s3_, ka_, la_]
      rfl
     refine one_ (i := 25) (N := some 73) (f_ 27 26) rfl rfl (by kernel_rfl) (by decide) (fun K hK => ?_)
     refine vd_ Tryz.func84 (by kernel_rfl) rfl #[.pointer (some ⟨P.tb, 0, none⟩), .int .i64 (v0 : Int), .int .i64 (v1 : Int)] (by rfl) rfl rfl (by (try simp only [List.map_toArray, List.map_cons, List.map_nil]); rfl) ?_
     refine (ap_ P (W7.drewN nd) stJ im3 em3 HT8.out v0 v1 hv0 hv1).mono ?_
     rintro e' W8 ⟨rfl, rfl⟩
     refine ⟨_, rfl, ?_⟩
     refine hK.out _ _ hHeld (fun hHeld => ?_)
     clear hK K
     refine rb_ (a' := ?_) ?_ ?_
     rotate_left
     ·show Act.put _ (some 73) _ = _
      simp only [Act.put, s1_, s2_, s3_, ka_, la_]
      rfl
     refine kg_ (i := 26) (N := some 74) (f_ 27 27) rfl rfl (by kernel_rfl) (by decide) (fun K hK => ?_)
     refine vd_ Tryz.func83 (by kernel_rfl) rfl #[.pointer (some ⟨P.tb, 0, none⟩), .agg #[.int .i64 (kk : Int), .int .i64 ((e : Int) + 1), .int .i64 (f : Int)], .int .i64 (t : Int), .int .i64 (Chart.cap P.most (v0 * v1) : Int)] (by rfl) rfl rfl (by (try simp only [List.map_toArray, List.map_cons, List.map_nil]); rfl) ?_
     have hadd := sm_ P (W7.drewN nd) stJ im3 em3 HT8.out HEOj.out kk (e + 1) f t (Chart.cap P.most (v0 * v1)) hlt (Chart.cap_le _ _) (by have := HX.out; rw [← this]; omega) hf ht
     rw [Int.natCast_add] at hadd
     refine hadd.mono ?_
     rintro e' W9 ⟨rfl, im9, em9, hT9, hkp9, hC9⟩
     have HT9 : Aside0 (as_ P (xf_ P stD kk (e + 1) f t (L.take (j + 1))) W W9 ((kk : Int), (e : Int), (f : Int)) (.slice (some ad3) L.length cu)) := ⟨im9, em9, by rw [HSN7.out]; exact hT9, (HC7.out.drewN nd).trans hC9, by rw [hkp9 _ (fun h => by injection h with _ h; injection h with h _; omega)]; exact HU3.out⟩
     have HBX9 := Aside0.mk (hC9.blk (k := b) HBX7.out (by decide))
     have HBL9 := Aside0.mk (hC9.blk (k := g2) HBL7.out (by decide))
     clear hT9 hkp9 hC9 hadd
     refine ⟨_, rfl, ?_⟩
     refine hK.out _ _ ?_
     clear hK K
     refine rb_ (a' := ?_) ?_ ?_
     rotate_left
     ·show Act.put _ (some 74) _ = _
      simp only [Act.put, s1_, s2_, s3_, ka_, la_]
      rfl
     refine je_ (by kernel_rfl) ?_
     go_wp2
     go_roundg (L.length - (j + 1))
     case measure => omega
     case rel => exact ⟨j + 1, by omega, by omega, by go_num, HT9, HBX9, HBL9⟩
    have hmtz : decide ((m : Int) < (t : Int)) = false := by simp; omega
    have HT6 : Aside0 (as_ P (xf_ P stD kk (e + 1) f t (L.take (j + 1))) W wr ((kk : Int), (e : Int), (f : Int)) (.slice (some ad3) L.length cu)) := ⟨im3, em3, by
     rw [HSN.out]
     unfold Chart.St.long1
     rw [if_neg hmt]
     exact HT3.out, HC3.out, HU3.out⟩
    go_wp2
    go_roundg (L.length - (j + 1))
    case measure => omega
    case rel => exact ⟨j + 1, by omega, by omega, by go_num, HT6, HBX, HBL⟩
   have HT6 : Aside0 (ke_ P ((st.longer P.T P.rl P.most f t kk).long3 P.T P.rl P.most kk f t (e + 1)) W wr) := ⟨by
    obtain ⟨a, b, q1, q2, _⟩ := HTI.out
    rw [List.take_of_length_le (by omega)] at q1
    rw [HSTEP.out]
    exact ⟨a, b, q1, q2⟩⟩
   have hjlz : decide ((j : Int) < (L.length : Int)) = false := by simp; omega
   clear HTI
   go_wp2
   go_roundg (y.f1.length - (e + 1))
   case measure => omega
   case rel => exact ⟨e + 1, by omega, by omega, by omega, by go_num, HT6, HBX⟩
  have HT3 : Aside0 (ke_ P (st.longer P.T P.rl P.most f t (kk + 1)) W wr) := ⟨by
   have hs := dm_ P (st.longer P.T P.rl P.most f t kk) kk f t e y.f1.length (by omega) he2
   have hl := (ag_ P kk hlt).1
   rw [← HX.out] at hl
   have := HT2.out
   rw [hs] at this
   unfold Chart.St.longer
   rw [hl]
   exact this⟩
  have hlez : decide ((e : Int) + 1 ≤ (y.f1.length : Int)) = false := by simp; omega
  clear HT2 HBX2
  go_wp2
  go_roundg (P.rules.length - (kk + 1))
  case measure => omega
  case rel => exact ⟨kk + 1, by omega, by omega, by go_num, HT3⟩
 have e : kk = P.rules.length := by omega
 have HT1 : Aside0 (ke_ P (st.longer P.T P.rl P.most f t P.rules.length) W wr) := by rw [← e]; exact HT
 clear e
 have hltz : decide ((kk : Int) < (P.rules.length : Int)) = false := by simp; omega
 go_wp2
 refine bodyPost_ret (results_none rfl _ _ _) rfl ?_
 exact ⟨rfl, HT1.out⟩
def foldS (P : TabP) (st : Chart.St) (f t : Nat) (L : List Int) : Chart.St := L.foldl (fun st s => st.alone P.T P.rl P.most s f t P.rl.length) st
theorem uj_ (P : TabP) : P.rl.length = P.rules.length := by unfold TabP.rl; rw [List.length_map]
theorem gt_ (P : TabP) (st : Chart.St) (f t : Nat) (L : List Int) (j : Nat) (h : j < L.length) : foldS P st f t (L.take (j + 1)) = (foldS P st f t (L.take j)).alone P.T P.rl P.most L[j] f t P.rules.length := by
 unfold foldS
 rw [List.take_succ_eq_append_getElem h, List.foldl_append, ← uj_]
 rfl
theorem EndsOk.foldS {P : TabP} {st : Chart.St} (h : EndsOk st) (hm : 0 < P.most) (f t : Nat) (ht : t ≤ 1000000) : ∀ L : List Int, EndsOk (foldS P st f t L) := by
 intro L
 unfold Proofs.YtjfbfhoipgldgaaGreat.P.foldS
 induction L generalizing st with
 | nil => exact h
 | cons s L ih => exact ih (h.alone P.T hm s f t ht _)
theorem EndsOk.span {P : TabP} {st : Chart.St} (h : EndsOk st) (hm : 0 < P.most) (f t : Nat) (ht : t ≤ 1000000) : EndsOk (st.span P.T P.rl P.most P.order f t) :=
 ((h.longer P.T hm f t ht _).foldS (P := P) hm f t ht P.order).begun P.T hm f t ht _
set_option maxHeartbeats 4000000 in
set_option maxRecDepth 100000 in
theorem fv_ (P : TabP) (W : World) (st : Chart.St) (im : List (Key3 × Nat)) (em : List (Key3 × Value)) (h : Tab P W st im em) (heo : EndsOk st) (f t : Nat) (hf : f ≤ 1000000) (ht : t ≤ 1000000) (hord : ∀ s ∈ P.order, ie_ s) (hol : P.order.length ≤ 1000000) :
  Calls Tryz.prog 34 #[.pointer (some ⟨P.tb, 0, none⟩), .int .i64 (f : Int), .int .i64 (t : Int)] W fun e W' => qj_ P (st.span P.T P.rl P.most P.order f t) W e W' := by
 have HOK := Aside0.mk h.ok
 have HEO := Aside0.mk heo
 have HT := Aside0.mk h
 have HORD := Aside0.mk hord
 have HB1 := Aside0.mk (heo.longer P.T (rules := P.rl) h.ok.most1 f t ht P.rules.length)
 obtain ⟨Ao, hAo⟩ : ∃ A, A = P.Ao := ⟨_, rfl⟩
 have HAO := Aside0.mk hAo
 clear h heo hord
 go_enter Tryz.func34, Tryz.ntmps34
 go_wp2_with fail
 refine (hr_ P W st im em HT.out HEO.out f t hf ht).mono ?_
 rintro e W1 ⟨rfl, im1, em1, hT1, hC1⟩
 have c1 : W1.cell? ⟨P.tb, 1, none⟩ = some (.slice Ao P.order.length P.co) := by rw [hAo]; exact hT1.cell 1 _ rfl
 have HT1 : Aside0 (ke_ P (foldS P (st.longer P.T P.rl P.most f t P.rules.length) f t (P.order.take 0)) W W1) := ⟨im1, em1, hT1, hC1⟩
 clear hT1 hC1 hAo
 go_wp2_with fail
 clear c1
 go_loopg [17] P.order.length (fun gg s17 wr => ∃ kk : Nat, kk ≤ P.order.length ∧ P.order.length - kk ≤ gg ∧ s17 = .int .i64 kk ∧ Aside0 (ke_ P (foldS P (st.longer P.T P.rl P.most f t P.rules.length) f t (P.order.take kk)) W wr))
 case atStart => exact ⟨0, Nat.zero_le _, by omega, rfl, HT1⟩
 clear HT1
 obtain ⟨kk, hkk, hgg, rfl, HT2⟩ := hrel
 by_cases hlt : kk < P.order.length
 ·have hltz : (kk : Int) < (P.order.length : Int) := by omega
  obtain ⟨im2, em2, hT2, hC2⟩ := HT2.out
  obtain ⟨tag, _, hO, _⟩ := hT2.ends
  obtain ⟨_, _, hCo⟩ := Kd.R_reads' hO.1
  obtain ⟨ado, hAo2, hcell⟩ := Kd.at_int hCo (kk : Int) (by omega) hltz
  rw [← HAO.out] at hAo2
  subst hAo2
  have hrd : rd P.order (kk : Int) = P.order[kk] := by
   show P.order.getD (kk : Int).toNat 0 = _
   rw [Int.toNat_natCast, List.getD_eq_getElem?_getD, List.getElem?_eq_getElem hlt]
   rfl
  rw [hrd, Int.toNat_natCast] at hcell
  have hs := HORD.out _ (List.getElem_mem hlt)
  have hsn := gt_ P (st.longer P.T P.rl P.most f t P.rules.length) f t P.order kk hlt
  generalize P.order[kk] = s at *
  have HSN := Aside0.mk hsn
  have HS := Aside0.mk hs
  have HT3 := Aside0.mk hT2
  have HC3 := Aside0.mk hC2
  have HEOk : Aside0 (EndsOk (foldS P (st.longer P.T P.rl P.most f t P.rules.length) f t (P.order.take kk))) := ⟨HB1.out.foldS HOK.out.most1 f t ht _⟩
  clear hT2 hC2 hO hCo hrd hs hsn HT2
  go_wp2_with fail
  refine (qt_ P wr _ im2 em2 HT3.out HEOk.out s f t HS.out hf ht).mono ?_
  rintro e W3 ⟨rfl, im3, em3, hT3, hC3⟩
  have HT4 : Aside0 (ke_ P (foldS P (st.longer P.T P.rl P.most f t P.rules.length) f t (P.order.take (kk + 1))) W W3) := ⟨im3, em3, by rw [HSN.out]; exact hT3, HC3.out.trans hC3⟩
  clear hT3 hC3
  go_wp2_with fail
  go_roundg (P.order.length - (kk + 1))
  case measure => omega
  case rel => exact ⟨kk + 1, by omega, by omega, by go_num, HT4⟩
 obtain ⟨im2, em2, hT2, hC2⟩ := HT2.out
 rw [List.take_of_length_le (by omega)] at hT2
 have HT3 := Aside0.mk hT2
 have HC3 := Aside0.mk hC2
 have HEOk : Aside0 (EndsOk (foldS P (st.longer P.T P.rl P.most f t P.rules.length) f t P.order)) := ⟨HB1.out.foldS HOK.out.most1 f t ht _⟩
 have hltz : decide ((kk : Int) < (P.order.length : Int)) = false := by simp; omega
 clear hT2 hC2 HT2
 go_wp2_with fail
 refine (ot_ P wr _ im2 em2 HT3.out HEOk.out f t hf ht).mono ?_
 rintro e W3 ⟨rfl, im3, em3, hT3, hC3⟩
 have HT4 : Aside0 (∃ im' em', Tab P W3 (st.span P.T P.rl P.most P.order f t) im' em' ∧ Calm W W3) := ⟨im3, em3, by
  unfold Chart.St.span
  rw [uj_]
  unfold foldS at hT3
  rw [uj_] at hT3
  exact hT3, HC3.out.trans hC3⟩
 clear hT3 hC3
 go_wp2_with fail
 refine bodyPost_ret (results_none rfl _ _ _) rfl ?_
 exact ⟨rfl, HT4.out⟩
end Go.Proofs.YtjfbfhoipgldgaaGreat.P
end
section
namespace Go.Proofs
open Go.Shelf
def Tryz.compactA_ren : Go.Shelf.Ren := ⟨fun | 43 => 55 | n => n, fun | 22 => 23 | 23 => 3 | 3 => 3 | 4 => 4 | 0 => 0 | n => n, fun | n => n⟩
theorem Tryz.compactA : Go.Proofs.SlLaysN.n43 Tryz.prog Tryz.compactA_ren := {
 mixed := by kernel_rfl
 f43 := ⟨Tryz.f55.name, by decide, Tryz.func55.trans (congrArg some (by kernel_rfl))⟩
 t0 := Tryz.underlying0
 a0 := Tryz.isAgg0
 z0 := Tryz.sizeOf0
 v0 := Tryz.zeroValue0
 t3 := Tryz.underlying3
 a3 := Tryz.isAgg3
 z3 := Tryz.sizeOf3
 v3 := Tryz.zeroValue3
 t4 := Tryz.underlying4
 a4 := Tryz.isAgg4
 z4 := Tryz.sizeOf4
 v4 := Tryz.zeroValue4
 t22 := Tryz.underlying23
 a22 := Tryz.isAgg23
 z22 := Tryz.sizeOf23
 v22 := Tryz.zeroValue23
 t23 := Tryz.underlying3
 a23 := Tryz.isAgg3
 z23 := Tryz.sizeOf3
 v23 := Tryz.zeroValue3
 i23 := by kernel_rfl }
end Go.Proofs
end
section
namespace Go.Proofs.YtjfbfhoipgldgaaGreat.P
open Go.RowKit Go.Proofs.YtjfbfhoipgldgaaGreatW.PrintWords Go.Proofs.YtjfbfhoipgldgaaGreatW.PrintLast Go.Proofs.YtjfbfhoipgldgaaGreatW.PrintMore
attribute [local go_sem] ob_ lb_ ub_ tb_ db_ cb_ nb_ kb_   
set_option linter.unusedVariables false
set_option linter.unusedSimpArgs false
structure Two (W : World) (base : Nat) (v1 : Value) (l1 : List Int) (v2 : Value) (l2 : List Int) : Prop where
 one : Kd.R (Kd.int .i64) 3 W base (fun k => some k ≠ v2.ownBlock) v1 l1
 two : Kd.R (Kd.int .i64) 3 W base (fun k => some k ≠ v1.ownBlock) v2 l2
theorem Two.swap {W : World} {base : Nat} {v1 v2 : Value} {l1 l2 : List Int} (h : Two W base v1 l1 v2 l2) : Two W base v2 l2 v1 l1 := ⟨h.two, h.one⟩
theorem Two.below {W W1 : World} {base : Nat} {v1 v2 : Value} {l1 l2 : List Int} (h : Two W base v1 l1 v2 l2) (hb : Below W.heap.size W W1) : Two W1 base v1 l1 v2 l2 := ⟨Kd.R_below h.one hb, Kd.R_below h.two hb⟩
theorem Two.fresh {W : World} {base : Nat} {v1 v2 : Value} {l1 l2 : List Int} (h : Two W base v1 l1 v2 l2) {k : Nat} (hk : W.heap.size ≤ k) : some k ≠ v2.ownBlock := fun e => by
 obtain ⟨c, hc⟩ := Kd.R_typed h.two k e.symm
 have := ic_ hc
 omega
theorem Two.fresh2 {W : World} {base : Nat} {v1 v2 : Value} {l1 l2 : List Int} (h : Two W base v1 l1 v2 l2) {k : Nat} (hk : W.heap.size ≤ k) : some k ≠ v1.ownBlock := h.swap.fresh hk
theorem Two.left {W w1 : World} {base : Nat} {v1 v2 u : Value} {l1 l2 l : List Int} (h : Two W base v1 l1 v2 l2) (hR : Kd.R (Kd.int .i64) 3 w1 base (fun k => some k ≠ v2.ownBlock) u l) (hg : W.grownBy w1 v1.ownBlock) (hat : u.ownBlock = v1.ownBlock ∨ ∃ b, u.ownBlock = some b ∧ W.heap.size ≤ b) : Two w1 base u l v2 l2 := by
 refine ⟨hR, Kd.R_mono (Kd.R_grown (Kd.R_tight rfl h.two) hg (fun k hk e => h.two.1 k hk.symm e)) (fun k hk e => ?_)⟩
 rcases hat with hat | ⟨b, hb, hlt⟩
 ·rw [hat] at e
  exact h.two.1 k hk.symm e
 rw [hb] at e
 injection e with e
 exact h.fresh (k := k) (by omega) hk
theorem Two.right {W w1 : World} {base : Nat} {v1 v2 u : Value} {l1 l2 l : List Int} (h : Two W base v1 l1 v2 l2) (hR : Kd.R (Kd.int .i64) 3 w1 base (fun k => some k ≠ v1.ownBlock) u l) (hg : W.grownBy w1 v2.ownBlock) (hat : u.ownBlock = v2.ownBlock ∨ ∃ b, u.ownBlock = some b ∧ W.heap.size ≤ b) : Two w1 base v1 l1 u l := (h.swap.left hR hg hat).swap
theorem au_ (A : Option Addr) (n m c : Nat) : (Value.slice A n c).ownBlock = (Value.slice A m c).ownBlock := by cases A <;> rfl
theorem Two.base1 {W : World} {base : Nat} {v1 v2 : Value} {l1 l2 : List Int} (h : Two W base v1 l1 v2 l2) (k : Nat) (hk : v1.ownBlock = some k) : base ≤ k := by
 obtain ⟨inner, ho⟩ := Kd.R_own h.one
 exact pe_ ho k hk
theorem mq_ (W : World) (base : Nat) (ok : Nat → Prop) (A : Option Addr) (n c : Nat) (l : List Int) (h : Kd.R (Kd.int .i64) 3 W base ok (.slice A n c) l) (hlen : l.length ≤ 1000000) :
  Calls Tryz.prog 54 #[.slice A n c] W fun e w' => e = .returned (.tuple #[]) ∧ Kd.R (Kd.int .i64) 3 w' base ok (.slice A n c) (xc_ l) ∧ W.grownBy w' (Value.slice A n c).ownBlock := by
 have ho := Kd.own_of_R h
 have hn : n = l.length := (Kd.R_reads' h).1
 subst hn
 by_cases hA : A = none
 ·subst hA
  have h0 : l.length = 0 := by
   rcases ho.2 with ⟨_, h0⟩ | ⟨g, cap, cur, e, _⟩
   ·exact h0
   cases e
  have hl : l = [] := List.eq_nil_of_length_eq_zero h0
  subst hl
  refine (AnyM.slices_Sort_int_none Tryz.sortA none c W).mono ?_
  rintro e w' ⟨rfl, rfl⟩
  have e0 : xc_ [] = [] := by simp [xc_]
  exact ⟨rfl, by rw [e0]; exact h, ⟨rfl, rfl, rfl, Nat.le_refl _, fun _ _ _ => rfl⟩⟩
 obtain ⟨g, cap, hv, hb, hlt, hn, hm, hl, hH⟩ := Lib.holds_of_ownsRow (zs := l) (show W.ownsRow base 3 1 (.slice A l.length c) l.length (l.map (Value.int .i64)) from ho) (fun e => by injection e with e; exact hA e)
 injection hv with h1 _ h3
 subst h1
 subst h3
 refine (AnyM.slices_Sort_int Tryz.sortA g 0 c l W hH hlt (by omega)).mono ?_
 rintro e w' ⟨rfl, q, os, rfl⟩
 refine ⟨rfl, ?_, grownBy_sortedI _⟩
 rcases ho.2 with ⟨e, _⟩ | ⟨g', cap', cur, e, hg, hh, h5, h6, h7, h8⟩
 ·cases e
 injection e with e1 _ e3
 injection e1 with e1
 injection e1 with e1
 subst e1
 subst e3
 have hls : (l.mergeSort fun x y => decide (x ≤ y)).length = l.length := List.length_mergeSort _
 have hown := ownsRow_sortedI (ss := l) (ts := l.mergeSort fun x y => decide (x ≤ y)) (n := q) (os := os) hls hg hh h5 h6 h7
 refine Kd.R_of_own (xs := xc_ l) ?_ h.1
 have hls2 : (xc_ l).length = l.length := List.length_mergeSort _
 rw [hls2]
 exact hown
theorem vk_ (W : World) (base : Nat) (ok : Nat → Prop) (A : Option Addr) (n c : Nat) (l : List Int) (h : Kd.R (Kd.int .i64) 3 W base ok (.slice A n c) l) :
  Calls Tryz.prog 55 #[.slice A n c] W fun e w' => ∃ m, e = .returned (.slice A m c) ∧ Kd.R (Kd.int .i64) 3 w' base ok (.slice A m c) (Lib.compact l) ∧ W.grownBy w' (Value.slice A n c).ownBlock := by
 have ho := Kd.own_of_R h
 have hn : n = l.length := (Kd.R_reads' h).1
 subst hn
 by_cases hA : A = none
 ·subst hA
  have h0 : l.length = 0 := by
   rcases ho.2 with ⟨_, h0⟩ | ⟨g, cap, cur, e, _⟩
   ·exact h0
   cases e
  have hl : l = [] := List.eq_nil_of_length_eq_zero h0
  subst hl
  refine (AnyG.slices_Compact_int_empty Tryz.compactA none c W).mono ?_
  rintro e w' ⟨rfl, rfl⟩
  have e0 : Lib.compact ([] : List Int) = [] := rfl
  exact ⟨_, rfl, by rw [e0]; exact h, ⟨rfl, rfl, rfl, Nat.le_refl _, fun _ _ _ => rfl⟩⟩
 obtain ⟨g, cap, hv, hb, hlt, hn, hm, hl, hH⟩ := Lib.holds_of_ownsRow (zs := l) (show W.ownsRow base 3 1 (.slice A l.length c) l.length (l.map (Value.int .i64)) from ho) (fun e => by injection e with e; exact hA e)
 injection hv with h1 _ h3
 subst h1
 subst h3
 have hle := Lib.compact_length_le l
 refine (AnyG.slices_Compact_int Tryz.compactA g 0 c l W hH (by unfold maxLen at hm; omega) hn).mono ?_
 rintro e w' ⟨rfl, q, rfl⟩
 refine ⟨_, rfl, ?_, by have := grownBy_sortedI (w := W) (g := g) (n := q) (os := #[]) (Lib.compact l ++ List.replicate (l.length - (Lib.compact l).length) 0).toArray; rwa [Sort.grow_empty] at this⟩
 have hown := Lib.ownsRow_putRow (q := q) (zs := l) (ys := Lib.compact l ++ List.replicate (l.length - (Lib.compact l).length) 0) (k := (Lib.compact l).length) (show W.ownsRow base 3 1 (.slice (some ⟨g, 0, none⟩) l.length c) l.length (l.map (Value.int .i64)) from ho) (by simp; omega) hle
 rw [List.take_left] at hown
 exact Kd.R_of_own hown h.1
def fd_ (l : List Int) : List Int := Lib.compact (xc_ l)
theorem iw_ (d : Array Int) (hd : ∀ i j, i ≤ j → j < d.size → d[i]! ≤ d[j]!) : ∀ m, m ≤ d.size → (∀ x, x ∈ Lib.compactUpTo d m ↔ ∃ j, j < m ∧ d[j]! = x) ∧ (Lib.compactUpTo d m).Pairwise (· < ·) := by
 intro m
 induction m with
 | zero => intro _; exact ⟨fun x => by simp [Lib.compactUpTo], by simp [Lib.compactUpTo]⟩
 | succ m ih =>
  intro hm
  obtain ⟨h1, h2⟩ := ih (by omega)
  rw [Lib.compactUpTo_succ]
  by_cases hk : Lib.keeps d m = true
  ·rw [if_pos hk]
   refine ⟨fun x => ?_, List.pairwise_append.2 ⟨h2, by simp, fun a ha b hb => ?_⟩⟩
   ·rw [List.mem_append, h1, List.mem_singleton]
    constructor
    ·rintro (⟨j, hj, e⟩ | e)
     ·exact ⟨j, by omega, e⟩
     exact ⟨m, by omega, e.symm⟩
    rintro ⟨j, hj, e⟩
    by_cases hjm : j = m
    ·exact .inr (by rw [← e, hjm])
    exact .inl ⟨j, by omega, e⟩
   rw [List.mem_singleton] at hb
   subst hb
   obtain ⟨j, hj, rfl⟩ := (h1 a).1 ha
   have h3 := hd j (m - 1) (by omega) (by omega)
   have h4 := hd (m - 1) m (by omega) (by omega)
   have h5 : d[m]! ≠ d[m - 1]! := by
    unfold Lib.keeps at hk
    rw [decide_eq_true_eq] at hk
    rcases hk with hk | hk
    ·omega
    exact hk
   omega
  rw [if_neg hk, List.append_nil]
  refine ⟨fun x => ?_, h2⟩
  rw [h1]
  constructor
  ·rintro ⟨j, hj, e⟩
   exact ⟨j, by omega, e⟩
  rintro ⟨j, hj, e⟩
  by_cases hjm : j = m
  ·have hk2 : ¬ (m = 0 ∨ d[m]! ≠ d[m - 1]!) := fun h => hk (by unfold Lib.keeps; exact decide_eq_true h)
   have hm0 : m ≠ 0 := fun h => hk2 (.inl h)
   have he : d[m]! = d[m - 1]! := Classical.byContradiction fun h => hk2 (.inr h)
   exact ⟨m - 1, by omega, by rw [← he, ← hjm]; exact e⟩
  exact ⟨j, by omega, e⟩
theorem wo_ (l : List Int) : (xc_ l).Pairwise (· ≤ ·) := by
 have := List.pairwise_mergeSort (le := leI) (fun a b c h1 h2 => by simp [leI] at *; omega) (fun a b => by simp [leI]; omega) l
 exact this.imp (fun h => by simpa [leI] using h)
theorem md_ (l : List Int) : (∀ x, x ∈ fd_ l ↔ x ∈ l) ∧ (fd_ l).Pairwise (· < ·) := by
 have hs := wo_ l
 have hd : ∀ i j, i ≤ j → j < (xc_ l).toArray.size → (xc_ l).toArray[i]! ≤ (xc_ l).toArray[j]! := by
  intro i j hij hj
  have hj' : j < (xc_ l).length := by simpa using hj
  rw [getElem!_pos _ i (by simp; omega), getElem!_pos _ j (by simp; omega)]
  simp only [List.getElem_toArray]
  rcases Nat.lt_or_eq_of_le hij with h | h
  ·exact List.pairwise_iff_getElem.1 hs i j (by omega) hj' h
  subst h; exact Int.le_refl _
 obtain ⟨h1, h2⟩ := iw_ (xc_ l).toArray hd (xc_ l).length (by simp)
 refine ⟨fun x => ?_, h2⟩
 have h3 : x ∈ xc_ l ↔ x ∈ l := (List.mergeSort_perm l leI).mem_iff
 rw [← h3]
 show x ∈ Lib.compactUpTo _ _ ↔ _
 rw [h1]
 constructor
 ·rintro ⟨j, hj, rfl⟩
  rw [getElem!_pos _ j (by simp; omega)]
  simp only [List.getElem_toArray]
  exact List.getElem_mem _
 intro hx
 obtain ⟨j, hj, rfl⟩ := List.mem_iff_getElem.1 hx
 exact ⟨j, hj, by rw [getElem!_pos _ j (by simp; omega)]; simp⟩
abbrev Tok' := S31
def tokB (size : Int) (x : Tok') : Bool := decide (0 ≤ x.f0) && decide (x.f1 ≤ size)
def qc_ (l : List Tok') (size : Int) : List Int := (l.filter (tokB size)).map (·.f0)
def tosL (l : List Tok') (size : Int) : List Int := (l.filter (tokB size)).map (·.f1)
theorem mr_ (l : List Tok') (size : Int) (k : Nat) (h : k < l.length) : qc_ (l.take (k + 1)) size = qc_ (l.take k) size ++ if tokB size l[k] = true then [l[k].f0] else [] := by
 unfold qc_
 rw [List.take_succ_eq_append_getElem h, List.filter_append, List.map_append]
 cases hb : tokB size l[k] <;> simp [hb]
theorem xu_ (l : List Tok') (size : Int) (k : Nat) (h : k < l.length) : tosL (l.take (k + 1)) size = tosL (l.take k) size ++ if tokB size l[k] = true then [l[k].f1] else [] := by
 unfold tosL
 rw [List.take_succ_eq_append_getElem h, List.filter_append, List.map_append]
 cases hb : tokB size l[k] <;> simp [hb]
theorem ti_ (l : List Tok') (size : Int) : (qc_ l size).length ≤ l.length := by
 unfold qc_
 rw [List.length_map]
 exact List.length_filter_le _ _
theorem ll_ (l : List Tok') (size : Int) : (tosL l size).length ≤ l.length := by
 unfold tosL
 rw [List.length_map]
 exact List.length_filter_le _ _
def um_ (w W : World) (l1 l2 : List Int) (v1 v2 : Value) : Prop := Two W w.heap.size v1 l1 v2 l2 ∧ Below w.heap.size w W
set_option maxHeartbeats 4000000 in
set_option maxRecDepth 100000 in
theorem xq_ (A0 : Option Addr) (c0 : Nat) (l0 : List Tok') (size : Int) (w : World) (hr0 : Kd.C k31 w A0 l0.length l0) (hl0 : l0.length ≤ 1000) :
  Calls Tryz.prog 32 #[.slice A0 l0.length c0, .int .i64 size] w fun e w' => ∃ v1 v2, e = .returned (.tuple #[v1, v2]) ∧ um_ w w' (fd_ (qc_ l0 size)) (fd_ (tosL l0 size)) v1 v2 := by
 have HR := Aside0.mk hr0
 have HT0 : Aside0 (um_ w w (qc_ (l0.take 0) size) (tosL (l0.take 0) size) (.slice none 0 0) (.slice none 0 0)) := ⟨⟨Kd.R_nil _ _ _ _ _, Kd.R_nil _ _ _ _ _⟩, Below.refl _ _⟩
 clear hr0
 go_enter Tryz.func32, Tryz.ntmps32
 go_wp2
 go_loopg [4, 5, 10] l0.length (fun gg s4 s5 s10 wr => ∃ kk : Nat, kk ≤ l0.length ∧ l0.length - kk ≤ gg ∧ s10 = .int .i64 kk ∧ Aside0 (um_ w wr (qc_ (l0.take kk) size) (tosL (l0.take kk) size) s4 s5))
 case atStart => exact ⟨0, Nat.zero_le _, by omega, rfl, HT0⟩
 clear HT0
 obtain ⟨kk, hkk, hgg, rfl, HT⟩ := hrel
 obtain ⟨hT, hB⟩ := HT.out
 obtain ⟨AF, cF, rfl⟩ := Kd.R_slice hT.one
 obtain ⟨AT, cT, rfl⟩ := Kd.R_slice hT.two
 have hlf := ti_ (l0.take kk) size
 have hlt2 := ll_ (l0.take kk) size
 have htk := List.length_take_le kk l0
 by_cases hlt : kk < l0.length
 ·have hltz : (kk : Int) < (l0.length : Int) := by omega
  obtain ⟨ad, hA, h0, h1, h2, h3, h4⟩ := bh_ (Kd.C_below HR.out hB) (kk : Int) (by omega) hltz
  subst hA
  have hx : bb_ l0 (kk : Int) = l0[kk] := by
   show l0.getD (kk : Int).toNat _ = _
   rw [Int.toNat_natCast, List.getD_eq_getElem?_getD, List.getElem?_eq_getElem hlt]
   rfl
  have hs1 := mr_ l0 size kk hlt
  have hs2 := xu_ l0 size kk hlt
  rw [← hx] at hs1 hs2
  generalize bb_ l0 (kk : Int) = y at *
  rw [Int.toNat_natCast] at h0 h1 h2 h3 h4
  generalize qc_ (l0.take kk) size = lF at *
  generalize tosL (l0.take kk) size = lT at *
  have HT1 := Aside0.mk (hT.below (ba_ (Below.refl wr.heap.size wr) (.cells #[.int .i64 y.f0, .int .i64 y.f1, .int .i64 y.f2, .int .i64 y.f3, .int .i64 y.f4] 31)))
  have HB1 := Aside0.mk (ba_ hB (.cells #[.int .i64 y.f0, .int .i64 y.f1, .int .i64 y.f2, .int .i64 y.f3, .int .i64 y.f4] 31))
  have HBX := Aside0.mk (pb_ wr (.cells #[.int .i64 y.f0, .int .i64 y.f1, .int .i64 y.f2, .int .i64 y.f3, .int .i64 y.f4] 31))
  have HS1 := Aside0.mk hs1
  have HS2 := Aside0.mk hs2
  clear hx hs1 hs2 hT hB HT
  by_cases hok : 0 ≤ y.f0 ∧ y.f1 ≤ size
  ·obtain ⟨hok1, hok2⟩ := hok
   have htb : tokB size y = true := by unfold tokB; rw [decide_eq_true hok1, decide_eq_true hok2]; rfl
   rw [if_pos htb] at HS1 HS2
   clear htb
   go_wp2
   clear h0 h1 h2 h3 h4
   generalize wr.alloc (.cells #[.int .i64 y.f0, .int .i64 y.f1, .int .i64 y.f2, .int .i64 y.f3, .int .i64 y.f4] 31) = W1 at *
   generalize wr.heap.size = b at *
   have HT0 : Aside0 (Two W1.drew w.heap.size (.slice AF lF.length cF) lF (.slice AT lT.length cT) lT) := ⟨HT1.out.below (xb_ (Below.refl _ _))⟩
   have HB0 : Aside0 (Below w.heap.size w W1.drew) := ⟨xb_ HB1.out⟩
   have HBX0 : Aside0 (W1.drew.heap[b]? = some (.cells #[.int .i64 y.f0, .int .i64 y.f1, .int .i64 y.f2, .int .i64 y.f3, .int .i64 y.f4] 31 (0, 0))) := ⟨HBX.out⟩
   have r0 : W1.drew.cell? ⟨b, 0, none⟩ = some (.int .i64 y.f0) := ca_ HBX0.out 0
   have r1 : W1.drew.cell? ⟨b, 1, none⟩ = some (.int .i64 y.f1) := ca_ HBX0.out 1
   have hlF : lF.length ≤ 1000 := by omega
   have hlT : lT.length ≤ 1000 := by omega
   clear HT1 HB1 HBX
   refine td_ (n := 12) (S := fun w' => w'.cell? ⟨b, 0, none⟩ = some (.int .i64 y.f0) ∧ w'.cell? ⟨b, 1, none⟩ = some (.int .i64 y.f1)) (ds := []) (f_ 12 0) (by kernel_rfl) rfl rfl ⟨r0, r1⟩ (fun hHeld => ?_)
   clear r0 r1
   generalize W1.drew = W2 at *
   refine pa_ (i := 0) (N := some 23) (v := ?_) (a' := ?_) (f_ 12 1) rfl rfl (by kernel_rfl) (fun _ _ _ h => h) (Or.inl ⟨by rfl, ?_⟩) ?_ ?_
   rotate_left
   ·intro w'
    go_simp
    try with_reducible rfl
   rotate_left
   ·simp only [Act.put, s1_, s2_, s3_, ka_, la_]
    rfl
   refine pa_ (i := 1) (N := some 24) (v := ?_) (a' := ?_) (f_ 12 2) rfl rfl (by kernel_rfl) (fun _ _ _ h => h) (Or.inl ⟨by rfl, ?_⟩) ?_ ?_
   rotate_left
   ·intro w'
    go_simp
    try with_reducible rfl
   rotate_left
   ·simp only [Act.put, s1_, s2_, s3_, ka_, la_]
    rfl
   refine take_ (i := 2) (N := some 25) (v := ?_) (a' := ?_) (f_ 12 3) rfl rfl (by kernel_rfl) (fun _ _ _ h => h) (Or.inl ⟨by rfl, ?_⟩) hHeld ?_ ?_
   rotate_left
   ·rintro w' ⟨s0, s1⟩
    go_simp
    try with_reducible rfl
   rotate_left
   ·simp only [Act.put, s1_, s2_, s3_, ka_, la_]
    rfl
   refine pa_ (i := 5) (N := some 28) (v := ?_) (a' := ?_) #[true, true, true, false, false, true, false, false, false, false, false, false] rfl rfl (by kernel_rfl) (fun _ _ _ h => h) (Or.inl ⟨by rfl, ?_⟩) ?_ ?_
   rotate_left
   ·intro w'
    go_simp
    try with_reducible rfl
   rotate_left
   ·simp only [Act.put, s1_, s2_, s3_, ka_, la_]
    rfl
   refine pa_ (i := 6) (N := some 29) (v := ?_) (a' := ?_) #[true, true, true, false, false, true, true, false, false, false, false, false] rfl rfl (by kernel_rfl) (fun _ _ _ h => h) (Or.inl ⟨by rfl, ?_⟩) ?_ ?_
   rotate_left
   ·intro w'
    go_simp
    try with_reducible rfl
   rotate_left
   ·simp only [Act.put, s1_, s2_, s3_, ka_, la_]
    rfl
   refine take_ (i := 7) (N := some 30) (v := ?_) (a' := ?_) #[true, true, true, false, false, true, true, true, false, false, false, false] rfl rfl (by kernel_rfl) (fun _ _ _ h => h) (Or.inl ⟨by rfl, ?_⟩) hHeld ?_ ?_
   rotate_left
   ·rintro w' ⟨s0, s1⟩
    go_simp
    try with_reducible rfl
   rotate_left
   ·simp only [Act.put, s1_, s2_, s3_, ka_, la_]
    rfl
   refine two_ (i := 3) (j := 8) (Ni := some 26) (Nj := some 31) #[true, true, true, true, false, true, true, true, false, false, false, false] #[true, true, true, false, false, true, true, true, true, false, false, false] rfl rfl rfl rfl (by kernel_rfl) (by decide) (by decide) (fun K hK => ?_) (fun K hK => ?_)
   ·refine yf_ (w1 := ?_) (v := ?_) (by rfl) rfl ?_ ?_
    rotate_left 2
    ·go_simp
     constructor
     ·rfl
     rfl
    have HT1 := Aside0.mk (HT0.out.below (ba_ (Below.refl W2.heap.size W2) (.cells #[.int .i64 y.f0] 3)))
    have HB1 := Aside0.mk (ba_ HB0.out (.cells #[.int .i64 y.f0] 3))
    have HBX1 := Aside0.mk (va_ (o' := (.cells #[.int .i64 y.f0] 3)) HBX0.out)
    have HG01 := Aside0.mk (pb_ W2 (.cells #[.int .i64 y.f0] 3))
    refine hK.out _ _ ⟨ca_ HBX1.out 0, ca_ HBX1.out 1⟩ (fun hHeld => ?_)
    clear hK K
    refine rb_ (a' := ?_) ?_ ?_
    rotate_left
    ·show Act.put _ (some 26) _ = _
     simp only [Act.put, s1_, s2_, s3_, ka_, la_]
     rfl
    refine two_ (i := 4) (j := 8) (Ni := some 27) (Nj := some 31) (f_ 12 8) #[true, true, true, true, false, true, true, true, true, false, false, false] rfl rfl rfl rfl (by kernel_rfl) (by decide) (by decide) (fun K hK => ?_) (fun K hK => ?_)
    ·refine Kd.R_append_rows_step (Kd.int .i64) (w0 := w) w.heap.size (by rfl) (.tmp 23) (.tmp 26) 23 3 (.int .i64 0) 8 rfl Tryz.underlying23 ae_ rfl (by decide) (by omega) (.slice AF lF.length cF) lF [y.f0] (some ⟨W2.heap.size, 0, none⟩) 1 1 (fun k => some k ≠ (.slice AT lT.length cT : Value).ownBlock) (fun _ => False) rfl rfl HT1.out.one (nc_ (d := Kd.int .i64) (xs := [y.f0]) (cs := [.int .i64 y.f0]) HG01.out (by simp) (of_ rfl rfl)) (fun _ _ h => h) (fun _ hk => hk.elim) (fun k hk => HT1.out.fresh hk) HB1.out HB1.out.size (by omega) (fun v1 w1 hR0 hB0 hg0 hat0 => ?_)
     have HT2 := Aside0.mk (HT1.out.left hR0 hg0 hat0)
     have HB2 := Aside0.mk hB0
     have HBX2 := Aside0.mk (ya_ HBX1.out hg0 (fun e => by obtain ⟨c, hc⟩ := Kd.R_typed HT1.out.one _ e.symm; have := HBX1.out.symm.trans hc; injection this with this; injection this with _ this; exact absurd this (by decide)))
     clear hR0 hB0 hg0 hat0
     refine hK.out _ _ ⟨ca_ HBX2.out 0, ca_ HBX2.out 1⟩ (fun hHeld => ?_)
     clear hK K
     refine rb_ (a' := ?_) ?_ ?_
     rotate_left
     ·show Act.put _ (some 27) _ = _
      simp only [Act.put, s1_, s2_, s3_, ka_, la_]
      rfl
     refine one_ (i := 8) (N := some 31) (f_ 12 9) rfl rfl (by kernel_rfl) (by decide) (fun K hK => ?_)
     refine yf_ (w1 := ?_) (v := ?_) (by rfl) rfl ?_ ?_
     rotate_left 2
     ·go_simp
      constructor
      ·rfl
      rfl
     have HT3 := Aside0.mk (HT2.out.below (ba_ (Below.refl w1.heap.size w1) (.cells #[.int .i64 y.f1] 3)))
     have HB3 := Aside0.mk (ba_ HB2.out (.cells #[.int .i64 y.f1] 3))
     have HBX3 := Aside0.mk (va_ (o' := (.cells #[.int .i64 y.f1] 3)) HBX2.out)
     have HG13 := Aside0.mk (pb_ w1 (.cells #[.int .i64 y.f1] 3))
     refine hK.out _ _ ⟨ca_ HBX3.out 0, ca_ HBX3.out 1⟩ (fun hHeld => ?_)
     clear hK K
     refine rb_ (a' := ?_) ?_ ?_
     rotate_left
     ·show Act.put _ (some 31) _ = _
      simp only [Act.put, s1_, s2_, s3_, ka_, la_]
      rfl
     refine one_ (i := 9) (N := some 32) (f_ 12 10) rfl rfl (by kernel_rfl) (by decide) (fun K hK => ?_)
     refine Kd.R_append_rows_step (Kd.int .i64) (w0 := w) w.heap.size (by rfl) (.tmp 28) (.tmp 31) 23 3 (.int .i64 0) 8 rfl Tryz.underlying23 ae_ rfl (by decide) (by omega) (.slice AT lT.length cT) lT [y.f1] (some ⟨w1.heap.size, 0, none⟩) 1 1 (fun k => some k ≠ (v1 : Value).ownBlock) (fun _ => False) rfl rfl HT3.out.two (nc_ (d := Kd.int .i64) (xs := [y.f1]) (cs := [.int .i64 y.f1]) HG13.out (by simp) (of_ rfl rfl)) (fun _ _ h => h) (fun _ hk => hk.elim) (fun k hk => HT3.out.fresh2 hk) HB3.out HB3.out.size (by omega) (fun v2 w2 hR1 hB1 hg1 hat1 => ?_)
     have HT4 := Aside0.mk (HT3.out.right hR1 hg1 hat1)
     have HB4 := Aside0.mk hB1
     have HBX4 := Aside0.mk (ya_ HBX3.out hg1 (fun e => by obtain ⟨c, hc⟩ := Kd.R_typed HT3.out.two _ e.symm; have := HBX3.out.symm.trans hc; injection this with this; injection this with _ this; exact absurd this (by decide)))
     clear hR1 hB1 hg1 hat1
     refine hK.out _ _ ⟨ca_ HBX4.out 0, ca_ HBX4.out 1⟩ (fun hHeld => ?_)
     clear hK K
     refine rb_ (a' := ?_) ?_ ?_
     rotate_left
     ·show Act.put _ (some 32) _ = _
      simp only [Act.put, s1_, s2_, s3_, ka_, la_]
      rfl
     refine pa_ (i := 10) (N := some 4) (v := ?_) (a' := ?_) (f_ 12 11) rfl rfl (by kernel_rfl) (fun _ _ _ h => h) (Or.inl ⟨by rfl, ?_⟩) ?_ ?_
     rotate_left
     ·intro w'
      go_simp
      try with_reducible rfl
     rotate_left
     ·simp only [Act.put, s1_, s2_, s3_, ka_, la_]
      rfl
     refine pa_ (i := 11) (N := some 5) (v := ?_) (a' := ?_) (f_ 12 12) rfl rfl (by kernel_rfl) (fun _ _ _ h => h) (Or.inl ⟨by rfl, ?_⟩) ?_ ?_
     rotate_left
     ·intro w'
      go_simp
      try with_reducible rfl
     rotate_left
     ·simp only [Act.put, s1_, s2_, s3_, ka_, la_]
      rfl
     refine je_ (by kernel_rfl) ?_
     have HT9 : Aside0 (um_ w w2 (qc_ (l0.take (kk + 1)) size) (tosL (l0.take (kk + 1)) size) v1 v2) := ⟨by rw [HS1.out, HS2.out]; exact HT4.out, HB4.out⟩
     clear HT4 HB4
     try go_wp2
     go_roundg (l0.length - (kk + 1))
     case measure => omega
     case rel => exact ⟨kk + 1, by omega, by omega, by go_num, HT9⟩
    refine yf_ (w1 := ?_) (v := ?_) (by rfl) rfl ?_ ?_
    rotate_left 2
    ·go_simp
     constructor
     ·rfl
     rfl
    have HT2 := Aside0.mk (HT1.out.below (ba_ (Below.refl (W2.alloc (.cells #[.int .i64 y.f0] 3)).heap.size (W2.alloc (.cells #[.int .i64 y.f0] 3))) (.cells #[.int .i64 y.f1] 3)))
    have HB2 := Aside0.mk (ba_ HB1.out (.cells #[.int .i64 y.f1] 3))
    have HBX2 := Aside0.mk (va_ (o' := (.cells #[.int .i64 y.f1] 3)) HBX1.out)
    have HG12 := Aside0.mk (kc_ (w := (W2.alloc (.cells #[.int .i64 y.f0] 3))) (cs := #[.int .i64 y.f1]) (t := 3) (n := W2.heap.size + 1) (by simp))
    have HG02 := Aside0.mk (va_ (o' := (.cells #[.int .i64 y.f1] 3)) HG01.out)
    refine hK.out _ _ ⟨ca_ HBX2.out 0, ca_ HBX2.out 1⟩ (fun hHeld => ?_)
    clear hK K
    refine rb_ (a' := ?_) ?_ ?_
    rotate_left
    ·show Act.put _ (some 31) _ = _
     simp only [Act.put, s1_, s2_, s3_, ka_, la_]
     rfl
    refine one_ (i := 4) (N := some 27) (f_ 12 9) rfl rfl (by kernel_rfl) (by decide) (fun K hK => ?_)
    have HN1 : Aside0 ((.slice AF lF.length cF : Value).ownBlock ≠ some (W2.heap.size + 1)) := ⟨fun e => by have h9 := HT0.out.fresh2 (k := W2.heap.size + 1) (by simp); exact h9 e.symm⟩
    refine Kd.R_append_rows_step (Kd.int .i64) (w0 := w) w.heap.size (by rfl) (.tmp 23) (.tmp 26) 23 3 (.int .i64 0) 8 rfl Tryz.underlying23 ae_ rfl (by decide) (by omega) (.slice AF lF.length cF) lF [y.f0] (some ⟨W2.heap.size, 0, none⟩) 1 1 (fun k => some k ≠ (.slice AT lT.length cT : Value).ownBlock) (fun _ => False) rfl rfl HT2.out.one (nc_ (d := Kd.int .i64) (xs := [y.f0]) (cs := [.int .i64 y.f0]) HG02.out (by simp) (of_ rfl rfl)) (fun _ _ h => h) (fun _ hk => hk.elim) (fun k hk => HT2.out.fresh hk) HB2.out HB2.out.size (by omega) (fun v1 w1 hR0 hB0 hg0 hat0 => ?_)
    have HT3 := Aside0.mk (HT2.out.left hR0 hg0 hat0)
    have HB3 := Aside0.mk hB0
    have HBX3 := Aside0.mk (ya_ HBX2.out hg0 (fun e => by obtain ⟨c, hc⟩ := Kd.R_typed HT2.out.one _ e.symm; have := HBX2.out.symm.trans hc; injection this with this; injection this with _ this; exact absurd this (by decide)))
    have HG13 := Aside0.mk (ya_ HG12.out hg0 (fun e => HN1.out (e.symm)))
    clear hR0 hB0 hg0 hat0
    refine hK.out _ _ ⟨ca_ HBX3.out 0, ca_ HBX3.out 1⟩ (fun hHeld => ?_)
    clear hK K
    refine rb_ (a' := ?_) ?_ ?_
    rotate_left
    ·show Act.put _ (some 27) _ = _
     simp only [Act.put, s1_, s2_, s3_, ka_, la_]
     rfl
    refine one_ (i := 9) (N := some 32) (f_ 12 10) rfl rfl (by kernel_rfl) (by decide) (fun K hK => ?_)
    refine Kd.R_append_rows_step (Kd.int .i64) (w0 := w) w.heap.size (by rfl) (.tmp 28) (.tmp 31) 23 3 (.int .i64 0) 8 rfl Tryz.underlying23 ae_ rfl (by decide) (by omega) (.slice AT lT.length cT) lT [y.f1] (some ⟨W2.heap.size + 1, 0, none⟩) 1 1 (fun k => some k ≠ (v1 : Value).ownBlock) (fun _ => False) rfl rfl HT3.out.two (nc_ (d := Kd.int .i64) (xs := [y.f1]) (cs := [.int .i64 y.f1]) HG13.out (by simp) (of_ rfl rfl)) (fun _ _ h => h) (fun _ hk => hk.elim) (fun k hk => HT3.out.fresh2 hk) HB3.out HB3.out.size (by omega) (fun v2 w2 hR1 hB1 hg1 hat1 => ?_)
    have HT4 := Aside0.mk (HT3.out.right hR1 hg1 hat1)
    have HB4 := Aside0.mk hB1
    have HBX4 := Aside0.mk (ya_ HBX3.out hg1 (fun e => by obtain ⟨c, hc⟩ := Kd.R_typed HT3.out.two _ e.symm; have := HBX3.out.symm.trans hc; injection this with this; injection this with _ this; exact absurd this (by decide)))
    clear hR1 hB1 hg1 hat1
    refine hK.out _ _ ⟨ca_ HBX4.out 0, ca_ HBX4.out 1⟩ (fun hHeld => ?_)
    clear hK K
    refine rb_ (a' := ?_) ?_ ?_
    rotate_left
    ·show Act.put _ (some 32) _ = _
     simp only [Act.put, s1_, s2_, s3_, ka_, la_]
     rfl
    refine pa_ (i := 10) (N := some 4) (v := ?_) (a' := ?_) (f_ 12 11) rfl rfl (by kernel_rfl) (fun _ _ _ h => h) (Or.inl ⟨by rfl, ?_⟩) ?_ ?_
    rotate_left
    ·intro w'
     go_simp
     try with_reducible rfl
    rotate_left
    ·simp only [Act.put, s1_, s2_, s3_, ka_, la_]
     rfl
    refine pa_ (i := 11) (N := some 5) (v := ?_) (a' := ?_) (f_ 12 12) rfl rfl (by kernel_rfl) (fun _ _ _ h => h) (Or.inl ⟨by rfl, ?_⟩) ?_ ?_
    rotate_left
    ·intro w'
     go_simp
     try with_reducible rfl
    rotate_left
    ·simp only [Act.put, s1_, s2_, s3_, ka_, la_]
     rfl
    refine je_ (by kernel_rfl) ?_
    have HT9 : Aside0 (um_ w w2 (qc_ (l0.take (kk + 1)) size) (tosL (l0.take (kk + 1)) size) v1 v2) := ⟨by rw [HS1.out, HS2.out]; exact HT4.out, HB4.out⟩
    clear HT4 HB4
    try go_wp2
    go_roundg (l0.length - (kk + 1))
    case measure => omega
    case rel => exact ⟨kk + 1, by omega, by omega, by go_num, HT9⟩
   refine yf_ (w1 := ?_) (v := ?_) (by rfl) rfl ?_ ?_
   rotate_left 2
   ·go_simp
    constructor
    ·rfl
    rfl
   have HT1 := Aside0.mk (HT0.out.below (ba_ (Below.refl W2.heap.size W2) (.cells #[.int .i64 y.f1] 3)))
   have HB1 := Aside0.mk (ba_ HB0.out (.cells #[.int .i64 y.f1] 3))
   have HBX1 := Aside0.mk (va_ (o' := (.cells #[.int .i64 y.f1] 3)) HBX0.out)
   have HG11 := Aside0.mk (pb_ W2 (.cells #[.int .i64 y.f1] 3))
   refine hK.out _ _ ⟨ca_ HBX1.out 0, ca_ HBX1.out 1⟩ (fun hHeld => ?_)
   clear hK K
   refine rb_ (a' := ?_) ?_ ?_
   rotate_left
   ·show Act.put _ (some 31) _ = _
    simp only [Act.put, s1_, s2_, s3_, ka_, la_]
    rfl
   refine one_ (i := 3) (N := some 26) #[true, true, true, true, false, true, true, true, true, false, false, false] rfl rfl (by kernel_rfl) (by decide) (fun K hK => ?_)
   refine yf_ (w1 := ?_) (v := ?_) (by rfl) rfl ?_ ?_
   rotate_left 2
   ·go_simp
    constructor
    ·rfl
    rfl
   have HT2 := Aside0.mk (HT1.out.below (ba_ (Below.refl (W2.alloc (.cells #[.int .i64 y.f1] 3)).heap.size (W2.alloc (.cells #[.int .i64 y.f1] 3))) (.cells #[.int .i64 y.f0] 3)))
   have HB2 := Aside0.mk (ba_ HB1.out (.cells #[.int .i64 y.f0] 3))
   have HBX2 := Aside0.mk (va_ (o' := (.cells #[.int .i64 y.f0] 3)) HBX1.out)
   have HG02 := Aside0.mk (kc_ (w := (W2.alloc (.cells #[.int .i64 y.f1] 3))) (cs := #[.int .i64 y.f0]) (t := 3) (n := W2.heap.size + 1) (by simp))
   have HG12 := Aside0.mk (va_ (o' := (.cells #[.int .i64 y.f0] 3)) HG11.out)
   refine hK.out _ _ ⟨ca_ HBX2.out 0, ca_ HBX2.out 1⟩ (fun hHeld => ?_)
   clear hK K
   refine rb_ (a' := ?_) ?_ ?_
   rotate_left
   ·show Act.put _ (some 26) _ = _
    simp only [Act.put, s1_, s2_, s3_, ka_, la_]
    rfl
   refine one_ (i := 4) (N := some 27) (f_ 12 9) rfl rfl (by kernel_rfl) (by decide) (fun K hK => ?_)
   have HN1 : Aside0 ((.slice AF lF.length cF : Value).ownBlock ≠ some (W2.heap.size)) := ⟨fun e => by have h9 := HT0.out.fresh2 (k := W2.heap.size) (by simp); exact h9 e.symm⟩
   refine Kd.R_append_rows_step (Kd.int .i64) (w0 := w) w.heap.size (by rfl) (.tmp 23) (.tmp 26) 23 3 (.int .i64 0) 8 rfl Tryz.underlying23 ae_ rfl (by decide) (by omega) (.slice AF lF.length cF) lF [y.f0] (some ⟨W2.heap.size + 1, 0, none⟩) 1 1 (fun k => some k ≠ (.slice AT lT.length cT : Value).ownBlock) (fun _ => False) rfl rfl HT2.out.one (nc_ (d := Kd.int .i64) (xs := [y.f0]) (cs := [.int .i64 y.f0]) HG02.out (by simp) (of_ rfl rfl)) (fun _ _ h => h) (fun _ hk => hk.elim) (fun k hk => HT2.out.fresh hk) HB2.out HB2.out.size (by omega) (fun v1 w1 hR0 hB0 hg0 hat0 => ?_)
   have HT3 := Aside0.mk (HT2.out.left hR0 hg0 hat0)
   have HB3 := Aside0.mk hB0
   have HBX3 := Aside0.mk (ya_ HBX2.out hg0 (fun e => by obtain ⟨c, hc⟩ := Kd.R_typed HT2.out.one _ e.symm; have := HBX2.out.symm.trans hc; injection this with this; injection this with _ this; exact absurd this (by decide)))
   have HG13 := Aside0.mk (ya_ HG12.out hg0 (fun e => HN1.out (e.symm)))
   clear hR0 hB0 hg0 hat0
   refine hK.out _ _ ⟨ca_ HBX3.out 0, ca_ HBX3.out 1⟩ (fun hHeld => ?_)
   clear hK K
   refine rb_ (a' := ?_) ?_ ?_
   rotate_left
   ·show Act.put _ (some 27) _ = _
    simp only [Act.put, s1_, s2_, s3_, ka_, la_]
    rfl
   refine one_ (i := 9) (N := some 32) (f_ 12 10) rfl rfl (by kernel_rfl) (by decide) (fun K hK => ?_)
   refine Kd.R_append_rows_step (Kd.int .i64) (w0 := w) w.heap.size (by rfl) (.tmp 28) (.tmp 31) 23 3 (.int .i64 0) 8 rfl Tryz.underlying23 ae_ rfl (by decide) (by omega) (.slice AT lT.length cT) lT [y.f1] (some ⟨W2.heap.size, 0, none⟩) 1 1 (fun k => some k ≠ (v1 : Value).ownBlock) (fun _ => False) rfl rfl HT3.out.two (nc_ (d := Kd.int .i64) (xs := [y.f1]) (cs := [.int .i64 y.f1]) HG13.out (by simp) (of_ rfl rfl)) (fun _ _ h => h) (fun _ hk => hk.elim) (fun k hk => HT3.out.fresh2 hk) HB3.out HB3.out.size (by omega) (fun v2 w2 hR1 hB1 hg1 hat1 => ?_)
   have HT4 := Aside0.mk (HT3.out.right hR1 hg1 hat1)
   have HB4 := Aside0.mk hB1
   have HBX4 := Aside0.mk (ya_ HBX3.out hg1 (fun e => by obtain ⟨c, hc⟩ := Kd.R_typed HT3.out.two _ e.symm; have := HBX3.out.symm.trans hc; injection this with this; injection this with _ this; exact absurd this (by decide)))
   clear hR1 hB1 hg1 hat1
   refine hK.out _ _ ⟨ca_ HBX4.out 0, ca_ HBX4.out 1⟩ (fun hHeld => ?_)
   clear hK K
   refine rb_ (a' := ?_) ?_ ?_
   rotate_left
   ·show Act.put _ (some 32) _ = _
    simp only [Act.put, s1_, s2_, s3_, ka_, la_]
    rfl
   refine pa_ (i := 10) (N := some 4) (v := ?_) (a' := ?_) (f_ 12 11) rfl rfl (by kernel_rfl) (fun _ _ _ h => h) (Or.inl ⟨by rfl, ?_⟩) ?_ ?_
   rotate_left
   ·intro w'
    go_simp
    try with_reducible rfl
   rotate_left
   ·simp only [Act.put, s1_, s2_, s3_, ka_, la_]
    rfl
   refine pa_ (i := 11) (N := some 5) (v := ?_) (a' := ?_) (f_ 12 12) rfl rfl (by kernel_rfl) (fun _ _ _ h => h) (Or.inl ⟨by rfl, ?_⟩) ?_ ?_
   rotate_left
   ·intro w'
    go_simp
    try with_reducible rfl
   rotate_left
   ·simp only [Act.put, s1_, s2_, s3_, ka_, la_]
    rfl
   refine je_ (by kernel_rfl) ?_
   have HT9 : Aside0 (um_ w w2 (qc_ (l0.take (kk + 1)) size) (tosL (l0.take (kk + 1)) size) v1 v2) := ⟨by rw [HS1.out, HS2.out]; exact HT4.out, HB4.out⟩
   clear HT4 HB4
   try go_wp2
   go_roundg (l0.length - (kk + 1))
   case measure => omega
   case rel => exact ⟨kk + 1, by omega, by omega, by go_num, HT9⟩
  have htb : tokB size y = false := by
   unfold tokB
   by_cases h0 : 0 ≤ y.f0
   ·rw [decide_eq_true h0, decide_eq_false (fun h => hok ⟨h0, h⟩)]; rfl
   rw [decide_eq_false h0]; rfl
  rw [htb] at HS1 HS2
  rw [if_neg (by decide), List.append_nil] at HS1 HS2
  have HT2 : Aside0 (um_ w (wr.alloc (.cells #[.int .i64 y.f0, .int .i64 y.f1, .int .i64 y.f2, .int .i64 y.f3, .int .i64 y.f4] 31)) (qc_ (l0.take (kk + 1)) size) (tosL (l0.take (kk + 1)) size) (.slice AF lF.length cF) (.slice AT lT.length cT)) := ⟨by rw [HS1.out, HS2.out]; exact HT1.out, HB1.out⟩
  by_cases hy0 : 0 ≤ y.f0
  ·have hy1 : decide (y.f1 ≤ size) = false := decide_eq_false (fun h => hok ⟨hy0, h⟩)
   clear hok htb
   go_wp2
   go_roundg (l0.length - (kk + 1))
   case measure => omega
   case rel => exact ⟨kk + 1, by omega, by omega, by go_num, HT2⟩
  have hy1 : decide (0 ≤ y.f0) = false := decide_eq_false hy0
  clear hok htb
  go_wp2
  go_roundg (l0.length - (kk + 1))
  case measure => omega
  case rel => exact ⟨kk + 1, by omega, by omega, by go_num, HT2⟩
 have he : kk = l0.length := by omega
 have hltz : decide ((kk : Int) < (l0.length : Int)) = false := by simp; omega
 rw [List.take_of_length_le (by omega)] at hT
 have HT1 := Aside0.mk hT
 have HB1 := Aside0.mk hB
 have h1000 : (qc_ l0 size).length ≤ 1000000 := by have := ti_ l0 size; omega
 have h1001 : (tosL l0 size).length ≤ 1000000 := by have := ll_ l0 size; omega
 clear hT hB HT
 rw [List.take_of_length_le (by omega)] at *
 go_wp2_with fail
 refine (mq_ wr w.heap.size _ AF _ cF _ HT1.out.one h1000).mono ?_
 rintro e w1 ⟨rfl, hR1, hg1⟩
 have HT2 := Aside0.mk (HT1.out.left hR1 hg1 (.inl rfl))
 have HB2 := Aside0.mk (HB1.out.grown hg1 HB1.out.size (fun j e => HT1.out.base1 j e))
 clear hR1 hg1
 go_wp2_with fail
 refine (mq_ w1 w.heap.size _ AT _ cT _ HT2.out.two h1001).mono ?_
 rintro e w2 ⟨rfl, hR2, hg2⟩
 have HT3 := Aside0.mk (HT2.out.right hR2 hg2 (.inl rfl))
 have HB3 := Aside0.mk (HB2.out.grown hg2 HB2.out.size (fun j e => HT2.out.swap.base1 j e))
 clear hR2 hg2
 go_wp2_with fail
 refine (vk_ w2 w.heap.size _ AF _ cF _ HT3.out.one).mono ?_
 rintro e w3 ⟨m3, rfl, hR3, hg3⟩
 have HT4 := Aside0.mk (HT3.out.left hR3 hg3 (.inl (au_ _ _ _ _)))
 have HB4 := Aside0.mk (HB3.out.grown hg3 HB3.out.size (fun j e => HT3.out.base1 j e))
 clear hR3 hg3
 go_wp2_with fail
 refine (vk_ w3 w.heap.size _ AT _ cT _ HT4.out.two).mono ?_
 rintro e w4 ⟨m4, rfl, hR4, hg4⟩
 have HT5 := Aside0.mk (HT4.out.right hR4 hg4 (.inl (au_ _ _ _ _)))
 have HB5 := Aside0.mk (HB4.out.grown hg4 HB4.out.size (fun j e => HT4.out.swap.base1 j e))
 clear hR4 hg4
 go_wp2
 go_ret2
 exact ⟨_, _, rfl, HT5.out, HB5.out⟩
theorem Reach.inv {next : Int → List Int} {l0 : List Int} {P : Int → Prop} (h0 : ∀ x ∈ l0, P x) (hs : ∀ x, P x → ∀ y ∈ next x, P y) {y : Int} (h : Reach next l0 y) : P y := by
 induction h with
 | base h => exact h0 _ h
 | step _ h ih => exact hs _ ih _ h
def hits (r : qa_) (p : Int × Int) : Prop := r.f1 = [p.2] ∧ zb_ p.2 ∧ r.f0 = p.1
theorem hits_iff (r : qa_) (p : Int × Int) : hits r p ↔ (r.f1.length = 1 ∧ 0 ≤ rd r.f1 0 ∧ rd r.f1 0 < 20) ∧ p = (r.f0, rd r.f1 0) := by
 unfold hits zb_
 constructor
 ·rintro ⟨h1, h2, h3⟩
  have h4 : rd r.f1 0 = p.2 := by rw [h1]; rfl
  rw [h4, h3, h1]
  exact ⟨⟨rfl, h2⟩, rfl⟩
 rintro ⟨⟨h1, h2, h3⟩, rfl⟩
 refine ⟨?_, ⟨h2, h3⟩, rfl⟩
 match hr : r.f1, h1 with
 | [x], _ => simp [rd]
theorem jo_ (p : Int × Int) : ∀ (l : List qa_) (m : List ((Int × Int) × Int)), (∀ q, 0 ≤ (mget m q).getD 0) → (0 < (mget (l.foldl dc_ m) p).getD 0 ↔ 0 < (mget m p).getD 0 ∨ ∃ r ∈ l, hits r p)
 | [], m, h => by simp
 | r :: l, m, h => by
  have h2 : ∀ q, 0 ≤ (mget (dc_ m r) q).getD 0 := by
   intro q
   unfold dc_
   split
   ·by_cases e : q = (r.f0, rd r.f1 0)
    ·subst e
     rw [mb_]
     have := h (r.f0, rd r.f1 0)
     simp only [Option.getD_some]
     omega
    rw [vb_ _ _ _ e]; exact h q
   exact h q
  rw [List.foldl_cons, jo_ p l _ h2]
  have h3 : 0 < (mget (dc_ m r) p).getD 0 ↔ 0 < (mget m p).getD 0 ∨ hits r p := by
   rw [hits_iff]
   unfold dc_
   split
   case isTrue hc =>
    by_cases e : p = (r.f0, rd r.f1 0)
    ·have := h p
     rw [e, mb_]
     simp only [Option.getD_some]
     rw [e] at this
     constructor
     ·intro _; exact .inr ⟨hc, trivial⟩
     intro _; omega
    rw [vb_ _ _ _ e]
    exact ⟨.inl, fun h => h.elim id (fun h => absurd h.2 e)⟩
   case isFalse hc => exact ⟨.inl, fun h => h.elim id (fun h => absurd h.1 hc)⟩
  rw [h3, or_assoc]
  simp
theorem nd_ (l0 : List qa_) (x : Int) (hx : zb_ x) (y : Int) : y ∈ ra_ l0 x ↔ zb_ y ∧ ∃ r ∈ l0, r.f0 = x ∧ r.f1 = [y] := by
 obtain ⟨n, rfl⟩ : ∃ n : Nat, x = n := ⟨x.toNat, by have := hx.1; omega⟩
 rw [ih_ l0 n (by have := hx.2; omega)]
 unfold gc_ rc_
 rw [List.mem_filter]
 have hm : y ∈ (List.range 20).map (fun (x : Nat) => (x : Int)) ↔ zb_ y := bd_ y
 rw [hm, decide_eq_true_eq, jo_ _ l0 [] (fun q => by simp [mget])]
 simp only [mget, Option.getD_none, Int.lt_irrefl, false_or, hits]
 constructor
 ·rintro ⟨h1, r, hr, h2, _, h3⟩
  exact ⟨h1, r, hr, h3, h2⟩
 rintro ⟨h1, r, hr, h2, h3⟩
 exact ⟨h1, r, hr, h3, h1, h2⟩
theorem ki_ (l0 : List qa_) (x : Int) (hx : zb_ x) : he_ l0 x = true ↔ Reach (ra_ l0) (ra_ l0 x) x := by
 unfold he_
 rw [decide_eq_true_eq, zl_ (yb_ l0) (yb_ l0 x hx)]
theorem bc_ (l0 : List qa_) : xa_ l0 = true ↔ l0.length ≤ 60 ∧ l0.all pc_ = true ∧ ∀ x, zb_ x → ¬ Reach (ra_ l0) (ra_ l0 x) x := by
 unfold xa_
 rw [Bool.and_eq_true, Bool.and_eq_true, decide_eq_true_eq, List.all_eq_true (l := symbols)]
 refine and_congr Iff.rfl (and_congr Iff.rfl ⟨fun h x hx => ?_, fun h x hx => ?_⟩)
 ·have h1 := h x ((bd_ x).2 hx)
  rw [← ki_ l0 x hx]
  intro h2
  rw [h2] at h1
  cases h1
 have hx' := (bd_ x).1 hx
 have h1 := h x hx'
 rw [← ki_ l0 x hx'] at h1
 simp [h1]
theorem cr_ (l0 : List qa_) (f : Int → Int) (h : ∀ r ∈ l0, ∀ y, r.f1 = [y] → zb_ r.f0 → zb_ y → f r.f0 < f y) (x : Int) (hx : zb_ x) : ¬ Reach (ra_ l0) (ra_ l0 x) x := by
 have hstep : ∀ x, zb_ x → ∀ y ∈ ra_ l0 x, f x < f y := by
  intro x hx y hy
  obtain ⟨h1, r, hr, h2, h3⟩ := (nd_ l0 x hx y).1 hy
  subst h2
  exact h r hr y h3 hx h1
 intro hr
 have := Reach.inv (P := fun y => zb_ y ∧ f x < f y) (fun y hy => ⟨yb_ l0 x hx y hy, hstep x hx y hy⟩) (fun z hz y hy => ⟨yb_ l0 z hz.1 y hy, Int.lt_trans hz.2 (hstep z hz.1 y hy)⟩) hr
 exact Int.lt_irrefl _ this.2
def zf_ (u : List (List Int)) (x : Int) : List Int := u.getD x.toNat []
structure OutOk (u : List (List Int)) (out : List Int) : Prop where
 nodup : out.Nodup
 rng : ∀ x ∈ out, 0 ≤ x ∧ x < (u.length : Int)
 before : ∀ pre s post, out = pre ++ s :: post → ∀ y ∈ zf_ u s, y ∈ pre
def gd_ (u : List (List Int)) (out : List Int) (x : Int) : Bool := !(zf_ u x).any fun y => !decide (y ∈ out)
theorem vg_ (u : List (List Int)) (out : List Int) (x : Int) : gd_ u out x = true ↔ ∀ y ∈ zf_ u x, y ∈ out := by
 unfold gd_
 simp
theorem OutOk.nil (u : List (List Int)) : OutOk u [] := ⟨List.nodup_nil, fun _ h => by simp at h, fun pre s post h => by simp at h⟩
theorem OutOk.snoc {u : List (List Int)} {out : List Int} (h : OutOk u out) (x : Int) (hx : 0 ≤ x ∧ x < (u.length : Int)) (hr : gd_ u out x = true) (hn : x ∉ out) : OutOk u (out ++ [x]) := by
 refine ⟨List.nodup_append.2 ⟨h.nodup, by simp, fun a ha b hb e => ?_⟩, fun y hy => ?_, fun pre s post he y hy => ?_⟩
 ·rw [List.mem_singleton] at hb
  exact hn (hb ▸ e ▸ ha)
 ·rcases List.mem_append.1 hy with hy | hy
  ·exact h.rng y hy
  rw [List.mem_singleton.1 hy]; exact hx
 rcases List.append_eq_append_iff.1 he with ⟨l, h1, h2⟩ | ⟨l, h1, h2⟩
 ·cases l with
  | nil =>
   simp at h1 h2
   obtain ⟨rfl, rfl⟩ := h2
   rw [h1]
   exact (vg_ u out _).1 hr y hy
  | cons a l =>
   simp at h2
 cases l with
 | nil =>
  simp at h1 h2
  obtain ⟨rfl, rfl⟩ := h2
  rw [← h1]
  exact (vg_ u out _).1 hr y hy
 | cons a l =>
  injection h2 with h3 h4
  subst h3
  exact h.before pre s l h1 y hy
theorem jp_ {N : Nat} : ∀ (N : Nat) (L : List Int), L.Nodup → (∀ x ∈ L, 0 ≤ x ∧ x < (N : Int)) → L.length ≤ N
 | 0, L, _, h => by
  cases L with
  | nil => exact Nat.le_refl _
  | cons a l => exact absurd (h a List.mem_cons_self) (by omega)
 | k + 1, L, hn, h => by
  by_cases hk : (k : Int) ∈ L
  ·have h1 := jp_ (N := N) k (L.erase (k : Int)) (hn.erase _) (fun m hm => by
    have h2 := h m (List.mem_of_mem_erase hm)
    have h3 : m ≠ (k : Int) := (List.Nodup.mem_erase_iff hn).1 hm |>.1
    omega)
   rw [List.length_erase_of_mem hk] at h1
   omega
  have := jp_ (N := N) k L hn (fun m hm => by
   have h2 := h m hm
   have h3 : m ≠ (k : Int) := fun e => hk (e ▸ hm)
   omega)
  omega
theorem OutOk.len {u : List (List Int)} {out : List Int} (h : OutOk u out) : out.length ≤ u.length := jp_ (N := 0) _ _ h.nodup h.rng
def Falls (u : List (List Int)) (rank : Int → Nat) : Prop := ∀ x : Nat, x < u.length → ∀ y ∈ zf_ u (x : Int), 0 ≤ y ∧ y < (u.length : Int) ∧ rank y < rank (x : Int)
theorem rm_ {N : Nat} {L : List Int} (hn : L.Nodup) (hr : ∀ x ∈ L, 0 ≤ x ∧ x < (N : Int)) (hl : N ≤ L.length) (x : Int) (hx : 0 ≤ x ∧ x < (N : Int)) : x ∈ L := by
 refine Classical.byContradiction fun h => ?_
 have h1 := jp_ (N := 0) N (L ++ [x]) (List.nodup_append.2 ⟨hn, by simp, fun a ha b hb e => by rw [List.mem_singleton] at hb; exact h (hb ▸ e ▸ ha)⟩) (fun y hy => by
  rcases List.mem_append.1 hy with hy | hy
  ·exact hr y hy
  rw [List.mem_singleton.1 hy]; exact hx)
 rw [List.length_append, List.length_singleton] at h1
 omega
theorem Falls.more {u : List (List Int)} {rank : Int → Nat} (hf : Falls u rank) {out : List Int} (h : OutOk u out) (hl : out.length < u.length) : ∃ x : Nat, x < u.length ∧ (x : Int) ∉ out ∧ gd_ u out (x : Int) = true := by
 have ex : ∃ x : Nat, x < u.length ∧ (x : Int) ∉ out := by
  refine Classical.byContradiction fun hno => ?_
  have hall : ∀ x : Nat, x < u.length → (x : Int) ∈ out := fun x hx => Classical.byContradiction fun h => hno ⟨x, hx, h⟩
  have h1 : ∀ k : Nat, k ≤ u.length → k ≤ ((out.filter fun x => decide (x < (k : Int))).length) := by
   intro k
   induction k with
   | zero => intro _; omega
   | succ k ih =>
    intro hk
    have h2 := ih (by omega)
    have h3 : (k : Int) ∈ out.filter fun x => decide (x < ((k + 1 : Nat) : Int)) := List.mem_filter.2 ⟨hall k (by omega), by simp; omega⟩
    have hsub : (out.filter fun x => decide (x < ((k + 1 : Nat) : Int))).erase (k : Int) = out.filter fun x => decide (x < (k : Int)) := by
     rw [List.Nodup.erase_eq_filter (h.nodup.filter _), List.filter_filter]
     refine List.filter_congr fun x hx => ?_
     have hd : (decide (x < (k : Int))) = (x != (k : Int) && decide (x < ((k + 1 : Nat) : Int))) := by
      rw [Bool.eq_iff_iff]
      simp
      omega
     rw [hd]
    have h4 := List.length_erase_of_mem h3
    rw [hsub] at h4
    have h5 : 0 < (out.filter fun x => decide (x < ((k + 1 : Nat) : Int))).length := List.length_pos_of_mem h3
    omega
  have h2 := h1 u.length (Nat.le_refl _)
  have h3 := List.length_filter_le (fun x => decide (x < (u.length : Int))) out
  omega
 have least : ∀ n : Nat, ∀ x : Nat, rank (x : Int) ≤ n → x < u.length → (x : Int) ∉ out → ∃ x : Nat, x < u.length ∧ (x : Int) ∉ out ∧ gd_ u out (x : Int) = true := by
  intro n
  induction n with
  | zero =>
   intro x hr hx hn
   refine ⟨x, hx, hn, (vg_ _ _ _).2 fun y hy => ?_⟩
   have := (hf x hx y hy).2.2
   omega
  | succ n ih =>
   intro x hr hx hn
   by_cases hre : gd_ u out (x : Int) = true
   ·exact ⟨x, hx, hn, hre⟩
   have hex : ∃ y ∈ zf_ u (x : Int), y ∉ out := Classical.byContradiction fun hno => hre ((vg_ _ _ _).2 fun y hy => Classical.byContradiction fun h => hno ⟨y, hy, h⟩)
   obtain ⟨y, hy, hyo⟩ := hex
   have h1 := hf x hx y hy
   obtain ⟨z, rfl⟩ : ∃ z : Nat, y = z := ⟨y.toNat, by omega⟩
   exact ih z (by omega) (by omega) hyo
 obtain ⟨x, hx, hn⟩ := ex
 exact least _ x (Nat.le_refl _) hx hn
def Grow (u : List (List Int)) (out out2 : List Int) (kk : Nat) : Prop := out.length < out2.length ∨ (out2 = out ∧ ∀ j : Nat, j < kk → ¬ ((j : Int) ∉ out ∧ gd_ u out (j : Int) = true))
theorem Grow.le {u : List (List Int)} {out out2 : List Int} {kk : Nat} (h : Grow u out out2 kk) : out.length ≤ out2.length := by
 rcases h with h | ⟨rfl, _⟩ <;> omega
theorem Grow.same {u : List (List Int)} {out out2 : List Int} {kk : Nat} (h : Grow u out out2 kk) (hn : ¬ ((kk : Int) ∉ out2 ∧ gd_ u out2 (kk : Int) = true)) : Grow u out out2 (kk + 1) := by
 rcases h with h | ⟨rfl, h⟩
 ·exact .inl h
 refine .inr ⟨rfl, fun j hj => ?_⟩
 by_cases e : j = kk
 ·rw [e]; exact hn
 exact h j (by omega)
theorem Grow.more {u : List (List Int)} {out out2 : List Int} {kk : Nat} (h : Grow u out out2 kk) (x : Int) : Grow u out (out2 ++ [x]) (kk + 1) := by
 refine .inl ?_
 rw [List.length_append, List.length_singleton]
 have := h.le
 omega
theorem blk_put0 {w : World} {g : Nat} {v u : Value} {t : TypeId} (h : w.heap[g]? = some (.cells #[v] t (0, 0))) : (w.setCell ⟨g, 0, none⟩ u).heap[g]? = some (.cells #[u] t (0, 0)) := sc_ h 0 u rfl
theorem cp_ (w : World) (g : Nat) (A : Option Addr) (c : Nat) (out : List Int) (hg : w.cell? ⟨g, 0, none⟩ = some (.slice A out.length c)) (hc : out.length ≤ c) (hC : Kd.C (Kd.int .i64) w A out.length out) :
  te_ Tryz.prog w qh_ (.func (.func 51) #[] #[.pointer (some ⟨g, 0, none⟩)]) (fun y => !decide (y ∈ out)) := by
 refine ⟨_, _, _, rfl, enters_of Tryz.func51 (by kernel_rfl) rfl, ?_⟩
 rintro W x v hb rfl
 have hcell := eb_ hb hg
 have hl : out.length ≤ 9223372036854775807 := hC.2.1
 have hcon := Aside0.mk (eg_ out x (out.length + 1) hl (by omega))
 have HC := Aside0.mk (Kd.C_below hC hb)
 clear hb hg hC
 go_enter Tryz.func51, Tryz.ntmps51
 go_wp2_with fail
 refine (slices_Contains_int_int.calls (out.length + 1) A c out x _ W HC.out hc hcon.out).mono ?_
 rintro e w' ⟨rfl, ⟨nd, rfl⟩⟩
 go_wp2
 go_ret
 exact ⟨rfl, aa_ (Below.refl _ _) nd⟩
set_option maxHeartbeats 4000000 in
set_option maxRecDepth 100000 in
theorem xs_ (A0 : Option Addr) (c0 : Nat) (u : List (List Int)) (w : World) (hr0 : Kd.C (Kd.slice 3 (Kd.int .i64)) w A0 u.length u) (hc0 : u.length ≤ c0) (hul : u.length ≤ 20) (rank : Int → Nat) (hf : Falls u rank) :
  Calls Tryz.prog 30 #[.slice A0 u.length c0] w fun e w' => ∃ (v : Value) (ord : List Int), e = .returned v ∧ Kd.R (Kd.int .i64) 3 w' w.heap.size (fun _ => True) v ord ∧ OutOk u ord ∧ ord.length = u.length ∧ Below w.heap.size w w' := by
 have HR := Aside0.mk hr0
 have HF := Aside0.mk hf
 have HO0 := Aside0.mk (OutOk.nil u)
 have HB0 := Aside0.mk (ba_ (Below.refl w.heap.size w) (.cells #[.slice none 0 0] 23))
 have HX0 := Aside0.mk (pb_ w (.cells #[.slice none 0 0] 23))
 have HR0 : Aside0 (Kd.R (Kd.int .i64) 3 (w.alloc (.cells #[.slice none 0 0] 23)) w.heap.size (fun k => k ≠ w.heap.size) (.slice none 0 0) ([] : List Int)) := ⟨Kd.R_nil _ _ _ _ _⟩
 clear hr0 hf
 go_enter Tryz.func30, Tryz.ntmps30
 go_wp2
 go_loopg [4] u.length (fun gg s4 wr => ∃ (out : List Int) (v : Value), u.length - out.length ≤ gg ∧ Aside0 (OutOk u out) ∧ Aside0 (wr.heap[w.heap.size]? = some (.cells #[v] 23 (0, 0))) ∧ Aside0 (Kd.R (Kd.int .i64) 3 wr w.heap.size (fun k => k ≠ w.heap.size) v out) ∧ Aside0 (Below w.heap.size w wr))
 case atStart => exact ⟨[], _, by omega, HO0, HX0, HR0, HB0⟩
 clear HO0 HX0 HR0 HB0
 obtain ⟨out, v, hgg, HO, HX, HV, HB⟩ := hrel
 obtain ⟨Ao, co, rfl⟩ := Kd.R_slice HV.out
 have hcb : wr.cell? ⟨w.heap.size, 0, none⟩ = some (.slice Ao out.length co) := ca_ HX.out 0
 have hle := HO.out.len
 by_cases hlt : out.length < u.length
 ·have hltz : (out.length : Int) < (u.length : Int) := by omega
  have hltn : decide (out.length < u.length) = true := decide_eq_true hlt
  have HG0 : Aside0 (Grow u out out 0) := ⟨.inr ⟨rfl, fun j hj => absurd hj (Nat.not_lt_zero _)⟩⟩
  obtain ⟨nOut, hnOut⟩ : ∃ n, out.length = n := ⟨_, rfl⟩
  have HNO := Aside0.mk hnOut
  rw [hnOut] at hcb hltz hltn hlt hgg hle
  have HV2 : Aside0 (∃ v, wr.heap[w.heap.size]? = some (.cells #[v] 23 (0, 0)) ∧ Kd.R (Kd.int .i64) 3 wr w.heap.size (fun k => k ≠ w.heap.size) v out) := ⟨_, HX.out, HV.out⟩
  clear HX HV hnOut
  go_wp2
  clear hcb
  go_loopg [17] u.length (fun gg2 s17 wr => ∃ (kk : Nat) (out2 : List Int), kk ≤ u.length ∧ u.length - kk ≤ gg2 ∧ s17 = .int .i64 kk ∧ Aside0 (OutOk u out2) ∧ Aside0 (Grow u out out2 kk) ∧ Aside0 (∃ v, wr.heap[w.heap.size]? = some (.cells #[v] 23 (0, 0)) ∧ Kd.R (Kd.int .i64) 3 wr w.heap.size (fun k => k ≠ w.heap.size) v out2) ∧ Aside0 (Below w.heap.size w wr))
  case atStart => exact ⟨0, out, Nat.zero_le _, by omega, rfl, HO, HG0, HV2, HB⟩
  clear HO HG0 HV2 HB
  obtain ⟨kk, out2, hkk, hgg2, rfl, HO, HG, HV, HB⟩ := hrel
  by_cases hkl : kk < u.length
  ·have hklz : (kk : Int) < (u.length : Int) := by omega
   obtain ⟨v2, hX, hV⟩ := HV.out
   obtain ⟨Ao2, co2, rfl⟩ := Kd.R_slice hV
   obtain ⟨_, hco2, hC2⟩ := Kd.R_reads' hV
   have hcb : wr.cell? ⟨w.heap.size, 0, none⟩ = some (.slice Ao2 out2.length co2) := ca_ hX 0
   obtain ⟨ad, A1, c1, hA, h0, h1, h2⟩ := at_L1 (Kd.C_below HR.out HB.out) (kk : Int) (by omega) hklz
   have hrow : kh_ u (kk : Int) = zf_ u (kk : Int) := rfl
   rw [hrow] at h0 h1 h2
   rw [Int.toNat_natCast] at h0
   have hl2 := HO.out.len
   have hcall := og_ _ A1 c1 (zf_ u (kk : Int)) _ wr h2 h1 (cp_ wr w.heap.size Ao2 co2 out2 hcb hco2 hC2)
   have HX := Aside0.mk hX
   have HVR := Aside0.mk hV
   have hrb : ((zf_ u (kk : Int)).any fun y => !decide (y ∈ out2)) = !(gd_ u out2 (kk : Int)) := by unfold gd_; rw [Bool.not_not]
   rw [hrb] at hcall
   generalize zf_ u (kk : Int) = row at *
   subst hA
   clear hrow h2 hX hV hC2 hrb hcb HV
   cases hre : gd_ u out2 (kk : Int) with
   | false =>
    rw [hre] at hcall
    have HGN := Aside0.mk (HG.out.same (fun h => by rw [hre] at h; exact absurd h.2 (by decide)))
    clear hre
    go_wp2_with fail
    refine hcall.mono ?_
    rintro e w' ⟨rfl, hb'⟩
    have HV3 : Aside0 (∃ v, w'.heap[w.heap.size]? = some (.cells #[v] 23 (0, 0)) ∧ Kd.R (Kd.int .i64) 3 w' w.heap.size (fun k => k ≠ w.heap.size) v out2) := ⟨_, za_ HX.out hb', Kd.R_below HVR.out hb'⟩
    have HB3 := Aside0.mk (ma_ HB.out hb')
    clear hb' hcall
    go_wp2
    go_roundg (u.length - (kk + 1))
    case measure => omega
    case rel => exact ⟨kk + 1, out2, by omega, by omega, by go_num, HO, HGN, HV3, HB3⟩
   | true =>
    rw [hre] at hcall
    have HRE := Aside0.mk hre
    clear hre
    go_wp2_with fail
    refine hcall.mono ?_
    rintro e w' ⟨rfl, hb'⟩
    have HX3 := Aside0.mk (za_ HX.out hb')
    have HV3 := Aside0.mk (Kd.R_below HVR.out hb')
    have HB3 := Aside0.mk (ma_ HB.out hb')
    have hcb3 : w'.cell? ⟨w.heap.size, 0, none⟩ = some (.slice Ao2 out2.length co2) := ca_ HX3.out 0
    have hcon := Aside0.mk (eg_ out2 (kk : Int) (out2.length + 1) (by omega) (by omega))
    clear hb' hcall
    by_cases hm : (kk : Int) ∈ out2
    ·rw [decide_eq_true hm] at hcon
     have HGN := Aside0.mk (HG.out.same (fun h => h.1 hm))
     clear hm
     go_wp2_with fail
     refine (slices_Contains_int_int.calls (out2.length + 1) Ao2 co2 out2 (kk : Int) _ w' (Kd.R_reads' HV3.out).2.2 hco2 hcon.out).mono ?_
     rintro e w4 ⟨rfl, ⟨nd, rfl⟩⟩
     have HV4 : Aside0 (∃ v, (w'.drewN nd).heap[w.heap.size]? = some (.cells #[v] 23 (0, 0)) ∧ Kd.R (Kd.int .i64) 3 (w'.drewN nd) w.heap.size (fun k => k ≠ w.heap.size) v out2) := ⟨_, ha_ HX3.out nd, Kd.R_drewN HV3.out nd⟩
     have HB4 := Aside0.mk (aa_ HB3.out nd)
     go_wp2
     go_roundg (u.length - (kk + 1))
     case measure => omega
     case rel => exact ⟨kk + 1, out2, by omega, by omega, by go_num, HO, HGN, HV4, HB4⟩
    rw [decide_eq_false hm] at hcon
    have HGN := Aside0.mk (HG.out.more (kk : Int))
    have HON := Aside0.mk (HO.out.snoc (kk : Int) ⟨by omega, hklz⟩ HRE.out hm)
    clear hm
    go_wp2_with fail
    refine (slices_Contains_int_int.calls (out2.length + 1) Ao2 co2 out2 (kk : Int) _ w' (Kd.R_reads' HV3.out).2.2 hco2 hcon.out).mono ?_
    rintro e w4 ⟨rfl, ⟨nd, rfl⟩⟩
    have HX4 := Aside0.mk (ha_ HX3.out nd)
    have HV4 := Aside0.mk (Kd.R_drewN HV3.out nd)
    have HB4 := Aside0.mk (aa_ HB3.out nd)
    have hcb4 : (w'.drewN nd).cell? ⟨w.heap.size, 0, none⟩ = some (.slice Ao2 out2.length co2) := ca_ HX4.out 0
    clear hcb3 HX3 HV3 HB3
    generalize w'.drewN nd = w4 at *
    have hl4 : out2.length ≤ 20 := by omega
    go_wp2_with (at_builtin; refine Kd.R_append (Kd.int .i64) (w0 := w) w.heap.size rfl (.tmp 33) (.tmp 35) 23 3 (.int .i64 0) 8 rfl Tryz.underlying23 ae_ rfl (by decide) (by omega) (.slice Ao2 out2.length co2) out2 (kk : Int) [.int .i64 (kk : Int)] (fun k => k ≠ w.heap.size) (fun _ => False) rfl rfl rfl (fun _ hk => hk.elim) (fun k hk => by have := ic_ HX4.out; omega) HV4.out HB4.out HB4.out.size (by omega) ?_; intro v5 w5 ho hb5 hg5 hat; have ho' : Kd.R (Kd.int .i64) 3 w5 w.heap.size (fun k => k ≠ w.heap.size) v5 (out2 ++ [(kk : Int)]) := ho; have HV5 := Aside0.mk ho'; have HB5 := Aside0.mk hb5; have HX5 := Aside0.mk (ya_ HX4.out hg5 (fun e => HV4.out.1 _ e.symm rfl)); have hf5 := fa_ HX5.out 0; have hc5 := ca_ HX5.out 0; obtain ⟨A5, c5, rfl⟩ := Kd.R_slice ho'; clear ho ho' hb5 hg5 hat)
    have HV6 : Aside0 (∃ v, (w5.setCell ⟨w.heap.size, 0, none⟩ (.slice A5 (out2.length + 1) c5)).heap[w.heap.size]? = some (.cells #[v] 23 (0, 0)) ∧ Kd.R (Kd.int .i64) 3 (w5.setCell ⟨w.heap.size, 0, none⟩ (.slice A5 (out2.length + 1) c5)) w.heap.size (fun k => k ≠ w.heap.size) v (out2 ++ [(kk : Int)])) := ⟨.slice A5 (out2.length + 1) c5, blk_put0 HX5.out, by
     have h := HV5.out
     rw [List.length_append, List.length_singleton] at h
     exact Kd.R_far h (fun k hk => hk) _⟩
    have HB6 := Aside0.mk (HB5.out.setCell (p := ⟨w.heap.size, 0, none⟩) (Nat.le_refl _) (.slice A5 (out2.length + 1) c5))
    clear HX5 HV5 HB5 hf5 hc5
    go_roundg (u.length - (kk + 1))
    case measure => omega
    case rel => exact ⟨kk + 1, out2 ++ [(kk : Int)], by omega, by omega, by go_num, HON, HGN, HV6, HB6⟩
  have hklz : decide ((kk : Int) < (u.length : Int)) = false := by simp; omega
  obtain ⟨v2, hX, hV⟩ := HV.out
  obtain ⟨Ao2, co2, rfl⟩ := Kd.R_slice hV
  have hcb : wr.cell? ⟨w.heap.size, 0, none⟩ = some (.slice Ao2 out2.length co2) := ca_ hX 0
  have hgr : nOut < out2.length := by
   rcases HG.out with h | ⟨rfl, h⟩
   ·rw [HNO.out] at h; exact h
   obtain ⟨x, hx, h1, h2⟩ := HF.out.more HO.out (by rw [HNO.out]; exact hlt)
   exact absurd ⟨h1, h2⟩ (h x (by omega))
  have hneb : ((out2.length : Int) == (nOut : Int)) = false := by simp; omega
  have hnen : (out2.length == nOut) = false := by simp; omega
  have HX := Aside0.mk hX
  have HVR := Aside0.mk hV
  clear hX hV HV
  go_wp2
  go_roundg (u.length - out2.length)
  case measure => omega
  case rel => exact ⟨out2, _, Nat.le_refl _, HO, HX, HVR, HB⟩
 have hltz : decide ((out.length : Int) < (u.length : Int)) = false := by simp; omega
 have hltn : decide (out.length < u.length) = false := by simp; omega
 have HLL : Aside0 (out.length = u.length) := ⟨by omega⟩
 go_wp2
 go_ret
 exact ⟨_, out, rfl, Kd.R_mono HV.out (fun _ _ => trivial), HO.out, HLL.out, HB.out⟩
theorem dd_ (r : qa_) (h : pc_ r = true) : (0 ≤ r.f0 ∧ r.f0 < 20) ∧ (1 ≤ r.f1.length ∧ r.f1.length ≤ 6) ∧ (∀ y ∈ r.f1, -61 ≤ y ∧ y < 20) ∧ (0 ≤ r.f3 ∧ r.f3 ≤ 100) := by
 unfold pc_ ff_ be_ ac_ at h
 simp only [Bool.and_eq_true, decide_eq_true_eq, List.all_eq_true] at h
 refine ⟨h.1, ⟨by omega, by omega⟩, fun y hy => ?_, h.2.2.2.1⟩
 have := h.2.2.1 y hy
 unfold zd_ at this
 simp only [Bool.and_eq_true, decide_eq_true_eq] at this
 omega
theorem cw_ {α : Type} (p q : α → Bool) : ∀ (l : List α), (∀ a ∈ l, p a = true → q a = true) → (∃ a ∈ l, q a = true ∧ p a = false) → (l.filter p).length < (l.filter q).length := by
 intro l
 have le : ∀ l : List α, (∀ a ∈ l, p a = true → q a = true) → (l.filter p).length ≤ (l.filter q).length := by
  intro l
  induction l with
  | nil => intro _; simp
  | cons a l ih =>
   intro h
   have h1 := ih (fun b hb => h b (List.mem_cons_of_mem _ hb))
   have h2 := h a List.mem_cons_self
   cases hp : p a <;> cases hq : q a <;> simp [hp, hq]
   ·omega
   ·omega
   ·rw [hp, hq] at h2; exact absurd (h2 rfl) (by decide)
   omega
 induction l with
 | nil => rintro _ ⟨a, ha, _⟩; simp at ha
 | cons a l ih =>
  rintro h ⟨b, hb, h1, h2⟩
  have h3 := le l (fun b hb => h b (List.mem_cons_of_mem _ hb))
  rcases List.mem_cons.1 hb with rfl | hb
  ·simp [h1, h2]; omega
  have h4 := ih (fun b hb => h b (List.mem_cons_of_mem _ hb)) ⟨b, hb, h1, h2⟩
  have h5 := h a List.mem_cons_self
  cases hp : p a <;> cases hq : q a <;> simp [hp, hq]
  ·omega
  ·omega
  ·rw [hp, hq] at h5; exact absurd (h5 rfl) (by decide)
  omega
noncomputable def ej_ (l0 : List qa_) (x : Int) : Nat := (ce_ (ra_ l0) (ra_ l0 x)).length
theorem rankP_le (l0 : List qa_) (x : Int) : ej_ l0 x ≤ 20 := bg_ _ _
open Classical in
theorem wq_ (l0 : List qa_) (h : xa_ l0 = true) (x : Int) (hx : zb_ x) (y : Int) (hy : y ∈ ra_ l0 x) : ej_ l0 y < ej_ l0 x := by
 have hno := ((bc_ l0).1 h).2.2
 have hys := yb_ l0 x hx y hy
 unfold ej_ ce_
 refine cw_ _ _ symbols (fun z hz h1 => ?_) ⟨y, (bd_ y).2 hys, decide_eq_true (Reach.base hy), decide_eq_false (hno y hys)⟩
 rw [decide_eq_true_eq] at h1 ⊢
 have h3 : ∀ a ∈ ra_ l0 y, Reach (ra_ l0) (ra_ l0 x) a := fun a ha => Reach.step (Reach.base hy) ha
 exact Reach.inv (P := fun a => Reach (ra_ l0) (ra_ l0 x) a) h3 (fun a ha b hb => Reach.step ha hb) h1
def jb_ (l0 : List qa_) : List (Int × List Int) := l0.map fun r => (r.f0, r.f1)
theorem rh_ (l0 : List qa_) (x : Int) : zf_ (cc_ l0) x = ra_ l0 x := rfl
theorem qr_ (l0 : List qa_) (h : xa_ l0 = true) : Falls (cc_ l0) (ej_ l0) := by
 intro x hx y hy
 rw [ib_] at hx ⊢
 rw [rh_] at hy
 have hxs : zb_ (x : Int) := ⟨by omega, by omega⟩
 have hys := yb_ l0 x hxs y hy
 exact ⟨hys.1, hys.2, wq_ l0 h x hxs y hy⟩
theorem xn_ (l0 : List qa_) (h : xa_ l0 = true) : Chart.Ranked (jb_ l0) (ej_ l0) := by
 have hr := ((bc_ l0).1 h).2.1
 refine ⟨rankP_le l0, fun r hrm x hx he => ?_⟩
 obtain ⟨r0, hr0, rfl⟩ := List.mem_map.1 hrm
 have h1 := dd_ r0 (List.all_eq_true.1 hr r0 hr0)
 have he' : r0.f1 = [x] := he
 have hx2 := h1.2.2.1 x (by rw [he']; exact List.mem_singleton.2 rfl)
 exact wq_ l0 h r0.f0 ⟨h1.1.1, h1.1.2⟩ x ((nd_ l0 r0.f0 ⟨h1.1.1, h1.1.2⟩ x).2 ⟨⟨hx, hx2.2⟩, r0, hr0, rfl, he'⟩)
theorem xj_ (l0 : List qa_) (i : Nat) (hi : i < l0.length) : Chart.lhsOf (jb_ l0) i = l0[i].f0 ∧ Chart.rhsOf (jb_ l0) i = l0[i].f1 := by
 unfold Chart.lhsOf Chart.rhsOf jb_
 rw [List.getD_eq_getElem?_getD, List.getElem?_map, List.getElem?_eq_getElem hi]
 exact ⟨rfl, rfl⟩
theorem order_ok (l0 : List qa_) (h : xa_ l0 = true) (ord : List Int) (ho : OutOk (cc_ l0) ord) (hl : ord.length = (cc_ l0).length) : Chart.OrderOk (jb_ l0) ord := by
 have hr := ((bc_ l0).1 h).2.1
 have hlen : (jb_ l0).length = l0.length := by unfold jb_; rw [List.length_map]
 refine ⟨ho.nodup, fun i hi => ?_, fun pre s post he i hi hs h1 h0 => ?_⟩
 ·rw [hlen] at hi
  rw [(xj_ l0 i hi).1]
  have h1 := dd_ l0[i] (List.all_eq_true.1 hr _ (List.getElem_mem hi))
  refine rm_ (N := (cc_ l0).length) ho.nodup ho.rng (by omega) _ ?_
  rw [ib_]
  exact h1.1
 rw [hlen] at hi
 rw [(xj_ l0 i hi).1] at hs
 rw [(xj_ l0 i hi).2] at h1 h0 ⊢
 have h2 := dd_ l0[i] (List.all_eq_true.1 hr _ (List.getElem_mem hi))
 obtain ⟨x, hx⟩ : ∃ x, l0[i].f1 = [x] := by
  match hm : l0[i].f1, h1 with
  | [x], _ => exact ⟨x, rfl⟩
 rw [hx] at h0 ⊢
 have hx2 := h2.2.2.1 x (by rw [hx]; exact List.mem_singleton.2 rfl)
 refine ho.before pre s post he _ ?_
 rw [rh_, ← hs]
 exact (nd_ l0 _ ⟨h2.1.1, h2.1.2⟩ _).2 ⟨⟨h0, hx2.2⟩, l0[i], List.getElem_mem hi, rfl, hx⟩
theorem ig_ (l0 : List qa_) (h : xa_ l0 = true) : ∀ r ∈ jb_ l0, r.2 ≠ [] := by
 intro r hr he
 obtain ⟨r0, hr0, rfl⟩ := List.mem_map.1 hr
 have h1 := dd_ r0 (List.all_eq_true.1 ((bc_ l0).1 h).2.1 r0 hr0)
 have h2 : r0.f1 = [] := he
 rw [h2] at h1
 exact absurd h1.2.1.1 (by decide)
end Go.Proofs.YtjfbfhoipgldgaaGreat.P
end
section
namespace Go.Proofs.YtjfbfhoipgldgaaGreat.P
open Go.RowKit Go.Proofs.YtjfbfhoipgldgaaGreatW.PrintWords Go.Proofs.YtjfbfhoipgldgaaGreatW.PrintLast Go.Proofs.YtjfbfhoipgldgaaGreatW.PrintMore
attribute [local go_sem] ob_ lb_ ub_ tb_ db_ cb_ nb_ kb_   
set_option linter.unusedVariables false
set_option linter.unusedSimpArgs false
open Go.Maps (Keyed)
attribute [local go_sem] Oper.semAt_some
def pd_ (x : Tok') : Key3 := (x.f2, x.f0, x.f1)
def ol_ (m : List (Key3 × Int)) (x : Tok') : List (Key3 × Int) := mput m (pd_ x) ((mget m (pd_ x)).getD 0 + 1)
def tkL (l : List Tok') : List (Key3 × Int) := l.foldl ol_ []
theorem tkL_snoc (l : List Tok') (k : Nat) (h : k < l.length) : tkL (l.take (k + 1)) = ol_ (tkL (l.take k)) l[k] := by
 unfold tkL
 rw [List.take_succ_eq_append_getElem h, List.foldl_append]
 rfl
theorem wi_ (key : Key3) : ∀ (l : List Tok') (m : List (Key3 × Int)), (mget (l.foldl ol_ m) key).getD 0 = (mget m key).getD 0 + ((l.filter fun x => decide (pd_ x = key)).length : Int)
 | [], m => by simp
 | x :: l, m => by
  rw [List.foldl_cons, wi_ key l]
  unfold ol_
  by_cases e : pd_ x = key
  ·subst e
   rw [mb_]
   simp
   omega
  rw [vb_ _ _ _ (fun h => e h.symm)]
  simp [e]
theorem nl_ (l : List Tok') (key : Key3) : (mget (tkL l) key).getD 0 = ((l.filter fun x => decide (pd_ x = key)).length : Int) := by
 unfold tkL
 rw [wi_]
 simp [mget]
def tokT (l : List Tok') (x : Int) (p q : Nat) : Nat := (l.filter fun t => decide (pd_ t = (-1 - x, (p : Int), (q : Int)))).length
def mark (D : Nat) : Deferred := { target := .collected D, args := #[] }
theorem hj_ {P : Program} {n : Nat} {fn : Func} {tmps : Array Value} {R : Ending → World → Prop} {d : Deferred} {B : Nat} (J : World → Prop)
  (hJ : ∀ W D, J W → B ≤ D → W.heap[D]? = some (.deferred (some [])) → J (W.putObj D (.deferred none))) (hd : ∀ W, J W → LeavesInM Fence.wide n P fn tmps R [d] .returning W) :
  ∀ (Ds : List Nat) (w : World), Ds.Nodup → (∀ D ∈ Ds, w.heap[D]? = some (.deferred (some [])) ∧ B ≤ D) → J w → LeavesInM Fence.wide n P fn tmps R (Ds.map mark ++ [d]) .returning w
 | [], w, _, _, h => hd w h
 | D :: Ds, w, hn, hm, h => by
  have h1 := hm D List.mem_cons_self
  rw [List.nodup_cons] at hn
  refine ⟨by simp, .inl ⟨D, _, rfl, run_takeDeferred h1.1, ?_⟩⟩
  refine hj_ J hJ hd Ds _ hn.2 (fun D' hD' => ?_) (hJ _ _ h h1.2 h1.1)
  have hne : D' ≠ D := fun e => hn.1 (by rw [← e]; exact hD')
  rw [World.putObj_heap_other hne]
  exact hm D' (List.mem_cons_of_mem _ hD')
structure FillEnd (w W : World) (g tb b3 : Nat) (vals : Array Value) (m : List (Key3 × Int)) : Prop where
 below : Below w.heap.size w W
 res : W.heap[g]? = some (.cells #[.pointer (some ⟨tb, 0, none⟩)] 59 (0, 0))
 blk : W.heap[tb]? = some (.cells vals 58 (0, 0))
 m3 : MapOf Tryz.prog 42 encK W b3 (encC m)
theorem FillEnd.put {w W : World} {g tb b3 : Nat} {vals : Array Value} {m : List (Key3 × Int)} (h : FillEnd w W g tb b3 vals m) {D : Nat} (hw : w.heap.size ≤ D) (ho : W.heap[D]? = some (.deferred (some []))) (o' : Obj) : FillEnd w (W.putObj D o') g tb b3 vals m := by
 have hg := grownBy_putObj' W D o'
 have ne : ∀ {k : Nat} {c : Array Value} {t : TypeId}, W.heap[k]? = some (.cells c t (0, 0)) → D ≠ k := fun hb e => by
  subst e
  rw [ho] at hb
  injection hb with hb
  cases hb
 refine ⟨h.below.grown hg h.below.size (fun j e => by injection e with e; omega), ya_ h.res hg (fun e => ?_), ya_ h.blk hg (fun e => ?_), h.m3.grown hg (fun e => ?_)⟩
 ·injection e with e
  exact ne h.res e.symm
 ·injection e with e
  exact ne h.blk e.symm
 injection e with e
 subst e
 obtain ⟨es, cl, hh, _⟩ := h.m3
 rw [ho] at hh
 injection hh with hh
 cases hh
structure FillPre (w W : World) (g tb b2 b3 b4 b5 : Nat) (vals : Array Value) (tk : List (Key3 × Int)) : Prop where
 below : Below w.heap.size w W
 res : W.heap[g]? = some (.cells #[.pointer (some ⟨tb, 0, none⟩)] 59 (0, 0))
 blk : W.heap[tb]? = some (.cells vals 58 (0, 0))
 m2 : MapOf Tryz.prog 42 encK W b2 (encC tk)
 m3 : MapOf Tryz.prog 42 encK W b3 ([] : List (Key3 × Value))
 m4 : MapOf Tryz.prog 134 encK W b4 ([] : List (Key3 × Value))
 m5 : MapOf Tryz.prog 134 encK W b5 ([] : List (Key3 × Value))
 ge : w.heap.size ≤ g ∧ w.heap.size ≤ tb ∧ w.heap.size ≤ b2 ∧ w.heap.size ≤ b3 ∧ w.heap.size ≤ b4 ∧ w.heap.size ≤ b5
 apart : [b2, b3, b4, b5].Nodup ∧ g ≠ tb
theorem FillPre.belowW {w W W1 : World} {g tb b2 b3 b4 b5 : Nat} {vals : Array Value} {tk : List (Key3 × Int)} (h : FillPre w W g tb b2 b3 b4 b5 vals tk) (hb : Below W.heap.size W W1) : FillPre w W1 g tb b2 b3 b4 b5 vals tk :=
 ⟨ma_ h.below hb, za_ h.res hb, za_ h.blk hb, h.m2.below hb, h.m3.below hb, h.m4.below hb, h.m5.below hb, h.ge, h.apart⟩
theorem mi_ (w : World) (most : Nat) :
  FillPre w ((((((w.alloc (.cells #[.pointer (some ⟨w.heap.size + 1 + 1 + 1 + 1 + 1, 0, none⟩)] 59)).alloc (.map #[] 0)).alloc (.map #[] 0)).alloc (.map #[] 0)).alloc (.map #[] 0)).alloc (.cells #[.slice none 0 0, .slice none 0 0, .map (some (w.heap.size + 1)), .map (some (w.heap.size + 1 + 1)), .map (some (w.heap.size + 1 + 1 + 1)), .map (some (w.heap.size + 1 + 1 + 1 + 1)), .int .i64 (most : Int)] 58))
   w.heap.size (w.heap.size + 1 + 1 + 1 + 1 + 1) (w.heap.size + 1) (w.heap.size + 1 + 1) (w.heap.size + 1 + 1 + 1) (w.heap.size + 1 + 1 + 1 + 1) #[.slice none 0 0, .slice none 0 0, .map (some (w.heap.size + 1)), .map (some (w.heap.size + 1 + 1)), .map (some (w.heap.size + 1 + 1 + 1)), .map (some (w.heap.size + 1 + 1 + 1 + 1)), .int .i64 (most : Int)] [] := by
 have made : ∀ {κ : Type} (kt : TypeId) (enc : κ → Value) (W : World) (k : Nat), W.heap.size = k → MapOf Tryz.prog kt enc (W.alloc (.map #[] 0)) k ([] : List (κ × Value)) := fun kt enc W k h => h ▸ MapOf.made _ kt enc W
 refine ⟨?_, ?_, ?_, ?_, ?_, ?_, ?_, ⟨by omega, by omega, by omega, by omega, by omega, by omega⟩, ⟨by simp, by omega⟩⟩
 ·repeat apply ba_
  exact Below.refl _ _
 ·iterate 5 apply va_
  exact kc_ rfl
 ·exact kc_ (by simp)
 ·iterate 4 apply MapOf.alloc
  exact made _ _ _ _ (by simp)
 ·iterate 3 apply MapOf.alloc
  exact made _ _ _ _ (by simp)
 ·iterate 2 apply MapOf.alloc
  exact made _ _ _ _ (by simp)
 apply MapOf.alloc
 exact made _ _ _ _ (by simp)
theorem FillPre.set {w W : World} {g tb b2 b3 b4 b5 : Nat} {vals : Array Value} {tk : List (Key3 × Int)} (h : FillPre w W g tb b2 b3 b4 b5 vals tk) (i : Nat) (u : Value) : FillPre w (W.setCell ⟨tb, i, none⟩ u) g tb b2 b3 b4 b5 (vals.setIfInBounds i u) tk := by
 have ne : ∀ {κ : Type} [DecidableEq κ] {kt : TypeId} {enc : κ → Value} {b : Nat} {m : List (κ × Value)}, MapOf Tryz.prog kt enc W b m → b ≠ tb := fun hm => hm.not_cells h.blk
 exact ⟨h.below.setCell (p := ⟨tb, i, none⟩) h.ge.2.1 _, jc_ h.res h.apart.2 _, yg_ h.blk i u, h.m2.setCell _ (ne h.m2) _, h.m3.setCell _ (ne h.m3) _, h.m4.setCell _ (ne h.m4) _, h.m5.setCell _ (ne h.m5) _, h.ge, h.apart⟩
theorem FillPre.count {w W W1 : World} {g tb b2 b3 b4 b5 : Nat} {vals : Array Value} {tk tk1 : List (Key3 × Int)} (h : FillPre w W g tb b2 b3 b4 b5 vals tk) (hm : MapOf Tryz.prog 42 encK W1 b2 (encC tk1)) (hg : W.grownBy W1 (some b2)) : FillPre w W1 g tb b2 b3 b4 b5 vals tk1 := by
 have hap := h.apart.1
 simp only [List.nodup_cons, List.mem_cons, not_or, List.not_mem_nil, not_false_eq_true] at hap
 obtain ⟨⟨h23, h24, h25, _⟩, _⟩ := hap
 have nc := h.m2.no_cells
 refine ⟨h.below.grown hg h.below.size (fun j e => by injection e with e; have := h.ge.2.2.1; omega), ya_ h.res hg (fun e => ?_), ya_ h.blk hg (fun e => ?_), hm, h.m3.grown hg (fun e => by injection e with e; exact h23 e.symm), h.m4.grown hg (fun e => by injection e with e; exact h24 e.symm), h.m5.grown hg (fun e => by injection e with e; exact h25 e.symm), h.ge, h.apart⟩
 ·injection e with e
  have hb := h.res
  rw [e] at hb
  exact nc _ _ _ hb
 injection e with e
 have hb := h.blk
 rw [e] at hb
 exact nc _ _ _ hb
theorem sk_ {A B C : World} {row : Option Nat} (h : A.grownBy B row) (k : B.grownBy C row) : A.grownBy C row := by
 obtain ⟨h1, h2, h3, h4, h5⟩ := h
 obtain ⟨k1, k2, k3, k4, k5⟩ := k
 exact ⟨k1.trans h1, k2.trans h2, k3.trans h3, Nat.le_trans h4 k4, fun i hi hne => (k5 i (by omega) hne).trans (h5 i hi hne)⟩
theorem FillPre.stay {w W W1 : World} {g tb b2 b3 b4 b5 : Nat} {vals : Array Value} {tk : List (Key3 × Int)} (h : FillPre w W g tb b2 b3 b4 b5 vals tk) (hg : W.grownBy W1 (some b2)) {k : Nat} {c : Array Value} {t : TypeId} (hb : W.heap[k]? = some (.cells c t (0, 0))) : W1.heap[k]? = some (.cells c t (0, 0)) :=
 ya_ hb hg (fun e => by
  injection e with e
  rw [e] at hb
  exact h.m2.no_cells _ _ _ hb)
section
variable {P : Program} {ops : Array Oper} {o : Oper} {a : Act} {Q : Exit → Act → World → Prop} {Kc : Act → World → Prop} {W : World}
variable {κ : Type} [DecidableEq κ] {kt : TypeId} {enc : κ → Value} {b : Nat} {m : List (κ × Value)}
theorem kq_ (hw : Region.wanted o (yielded ops a.tmps) = true) (mO x : Operand) (t e : TypeId) (hop : o.op = Op.mapEntry t mO x) (K : Keyed P kt) (hinj : ∀ x y, enc x = enc y → x = y) (ht : P.underlying t = some (.map kt e))
  {z : Value} (hz : ∀ w, (zeroValue e).run P w = .ok z w) (hm : a.eval mO = .map (some b)) (h : MapOf P kt enc W b m) (k : κ) (hx : a.eval x = enc k) (hk : ∃ l, keyOf P kt (enc k) = some l)
  (hK : ∀ w1 n, W.grownBy w1 (some b) → w1.heap.size = W.heap.size → (∃ m1, MapOf P kt enc w1 b m1 ∧ mget m1 k = some ((mget m k).getD z)) →
   (∀ W' : World, W'.heap[b]? = w1.heap[b]? → ∀ v, ∃ w2, (Instr.entryStore t (.map (some b)) (.int .i64 n) v).run P W' = .ok () w2 ∧ MapOf P kt enc w2 b (mput m k v) ∧ W'.grownBy w2 (some b) ∧ w2.heap.size = W'.heap.size) →
   Kc (a.put o.dst (.tuple #[(mget m k).getD z, .int .i64 n])) w1) :
  if Region.wanted o (yielded ops a.tmps) = true then Oper.wp P o a W Kc Q else Kc (a.put o.dst undef) W := by
 obtain ⟨w1, n, hrun, r1, r2, r3, r4⟩ := h.entry2 K hinj ht hz k hk
 refine oi_ hw (w1 := w1) ?_ (hK w1 n r1 r2 r3 r4)
 simp [execOp, hop, hm, hx, hrun, Result.andThen]
end
theorem R_above {W : World} {base base' : Nat} {ok : Nat → Prop} {v : Value} {l : List Int} (h : Kd.R (Kd.int .i64) 3 W base ok v l) (hb : base' ≤ base) : Kd.R (Kd.int .i64) 3 W base' (fun k => base ≤ k) v l := Kd.R_lower (Kd.R_mono (Kd.R_bound h) (fun k hk => hk.2.1)) hb
def tabP (w : World) (tb : Nat) (A0 : Option Addr) (c0 : Nat) (Ao : Option Addr) (co b2 b3 b4 b5 : Nat) (rules : List qa_) (ord : List Int) (bs : List (Value × List Int)) (tk : List (Key3 × Int)) (most : Nat) : TabP :=
 { w0 := w, tb := tb, Ar := A0, cr := c0, Ao := Ao, co := co, b2 := b2, b3 := b3, b4 := b4, b5 := b5, rules := rules, order := ord, bs := bs, tk := tk, most := most }
theorem yu_ {w W W6 : World} {g tb b2 b3 b4 b5 : Nat} {A0 : Option Addr} {c0 : Nat} {Ao : Option Addr} {co : Nat} {rules : List qa_} {ord : List Int} {toks : List Tok'} {most : Nat} {vF vT : Value} {F T : List Int}
  (hP : FillPre w W g tb b2 b3 b4 b5 #[.slice A0 rules.length c0, .slice Ao ord.length co, .map (some b2), .map (some b3), .map (some b4), .map (some b5), .int .i64 (most : Int)] (tkL toks)) (hO : Kd.R (Kd.int .i64) 3 W w.heap.size (fun _ => True) (.slice Ao ord.length co) ord)
  (hT : Two W6 W.heap.size vF F vT T) (hB : Below W.heap.size W W6) (hr0 : Kd.C k48 w A0 rules.length rules) (hc0 : rules.length ≤ c0) (hrl : rules.length ≤ 1000000) (htl : toks.length ≤ 1000) (hm1 : 1 ≤ most) (hm2 : most ≤ 1000000000) (hch : xa_ rules = true) :
  Tab (tabP w tb A0 c0 Ao co b2 b3 b4 b5 rules ord [(vF, F), (vT, T)] (tkL toks) most) W6 Chart.St.none [] [] := by
 have hP6 := hP.belowW hB
 have hsz : w.heap.size ≤ W.heap.size := hP.below.size
 refine ⟨⟨hr0, hc0, hm1, hm2, fun r hr => ?_, hrl, fun k => ?_⟩, hP6.blk, hP6.below, hP6.m2, ⟨[], hP6.m3, fun s p q => by simp [mget, Chart.St.none], fun kv hkv => by simp at hkv⟩, hP6.m4, fun kv hkv => by simp at hkv, fun i d f _ q => rfl, hP.apart.1,
  ⟨fun _ => none, hP6.m5, ⟨Kd.R_mono (Kd.R_below hO hB) (fun _ _ => rfl), fun p hp => ?_⟩, fun i d f => Kd.R_nil _ _ _ _ _⟩, ⟨hP.ge.2.1, hP.ge.2.2.1, hP.ge.2.2.2.1, hP.ge.2.2.2.2.1, hP.ge.2.2.2.2.2, fun kv hkv => by simp at hkv⟩, fun s p q => Nat.zero_le _, fun i d f q => Nat.zero_le _⟩
 ·have h1 := dd_ r (List.all_eq_true.1 ((bc_ rules).1 hch).2.1 r hr)
  exact ⟨⟨by omega, by omega⟩, fun x hx => by have := h1.2.2.1 x hx; omega, by omega⟩
 ·show 0 ≤ (mget (tkL toks) k).getD 0 ∧ (mget (tkL toks) k).getD 0 ≤ 1000000000000
  rw [nl_]
  have := List.length_filter_le (fun x => decide (pd_ x = k)) toks
  omega
 have hp' : p = (vF, F) ∨ p = (vT, T) := by
  rcases List.mem_cons.1 hp with h | h
  ·exact .inl h
  exact .inr (List.mem_singleton.1 h)
 rcases hp' with rfl | rfl
 ·exact Kd.R_lower (Kd.R_mono hT.one (fun _ _ => rfl)) hsz
 exact Kd.R_lower (Kd.R_mono hT.two (fun _ _ => rfl)) hsz
def rowK (P : TabP) (st : Chart.St) (t : Nat) (FN : List Nat) (k : Nat) : Chart.St := (FN.drop k).reverse.foldl (fun st f => if f < t then st.span P.T P.rl P.most P.order f t else st) st
theorem rowK_len (P : TabP) (st : Chart.St) (t : Nat) (FN : List Nat) : rowK P st t FN FN.length = st := by
 unfold rowK
 rw [List.drop_length]
 rfl
theorem mv_ (P : TabP) (st : Chart.St) (t : Nat) (FN : List Nat) (k : Nat) (hk : k < FN.length) : rowK P st t FN k = if FN[k] < t then (rowK P st t FN (k + 1)).span P.T P.rl P.most P.order FN[k] t else rowK P st t FN (k + 1) := by
 unfold rowK
 rw [List.drop_eq_getElem_cons hk, List.reverse_cons, List.foldl_append]
 rfl
theorem EndsOk.fold {P : TabP} (hm : 0 < P.most) (t : Nat) (ht : t ≤ 1000000) : ∀ (L : List Nat) (st : Chart.St), EndsOk st → EndsOk (L.foldl (fun st f => if f < t then st.span P.T P.rl P.most P.order f t else st) st)
 | [], _, h => h
 | f :: L, st, h => by
  rw [List.foldl_cons]
  refine EndsOk.fold hm t ht L _ ?_
  split
  ·exact h.span hm f t ht
  exact h
theorem EndsOk.rowK {P : TabP} {st : Chart.St} (h : EndsOk st) (hm : 0 < P.most) (t : Nat) (ht : t ≤ 1000000) (FN : List Nat) (k : Nat) : EndsOk (rowK P st t FN k) := EndsOk.fold hm t ht _ _ h
def fillK (P : TabP) (FN TN : List Nat) (j : Nat) : Chart.St := (TN.take j).foldl (fun st t => st.row P.T P.rl P.most P.order t FN.reverse) Chart.St.none
theorem km_ (P : TabP) (FN TN : List Nat) (j : Nat) (hj : j < TN.length) : fillK P FN TN (j + 1) = rowK P (fillK P FN TN j) TN[j] FN 0 := by
 unfold fillK
 rw [List.take_succ_eq_append_getElem hj, List.foldl_append]
 rfl
theorem gw_ (P : TabP) (FN TN : List Nat) : fillK P FN TN TN.length = Chart.St.fill P.T P.rl P.most P.order FN TN := by
 unfold fillK
 rw [List.take_length]
 rfl
theorem EndsOk.fillK {P : TabP} (hm : 0 < P.most) (FN TN : List Nat) (hT : ∀ t ∈ TN, t ≤ 1000000) : ∀ j, j ≤ TN.length → EndsOk (fillK P FN TN j)
 | 0, _ => ⟨fun i d p => ⟨List.nodup_nil, fun q => by simp [Proofs.YtjfbfhoipgldgaaGreat.P.fillK, Chart.St.none]⟩, fun i d p q hq => by simp [Proofs.YtjfbfhoipgldgaaGreat.P.fillK, Chart.St.none] at hq⟩
 | j + 1, hj => by
  rw [km_ P FN TN j hj]
  exact (EndsOk.fillK hm FN TN hT j (by omega)).rowK hm _ (hT _ (List.getElem_mem _)) FN 0
theorem lw_ (A : Option Addr) (n c : Nat) (W : World) :
  Calls Tryz.prog 33 #[.slice A n c] W fun e w' => e = .returned (.func (.func 56) #[] #[.pointer (some ⟨W.heap.size, 0, none⟩)]) ∧ w' = W.alloc (.cells #[.slice A n c] 23) := by
 have hmf : ∀ (fn : Fn) (first cap : Array Value) (w : World), (Instr.makeFunc fn first cap).run Tryz.prog w = .ok (.func fn first cap) w := fun _ _ _ _ => rfl
 go_enter Tryz.func33, Tryz.ntmps33
 go_wp2
 go_ret
 exact ⟨rfl, rfl⟩
def RoundI (P0 : TabP) (bx tt : Nat) (st : Chart.St) (FN : List Nat) (W8 : World) (k : Nat) (W : World) : Prop := ∃ im em, Tab (P0.box bx (tt : Int)) W (rowK P0 st tt FN k) im em ∧ Calm W8 W
theorem Calm.put {A W : World} (h : Calm A W) {D : Nat} (hD : A.heap.size ≤ D) (o : Obj) : Calm A (W.putObj D o) :=
 ⟨by rw [World.putObj_size]; exact h.1, fun k o' hk h1 h2 => by
  have hlt := (Array.getElem?_eq_some_iff.1 hk).1
  rw [World.putObj_heap_other (by omega)]
  exact h.2 k o' hk h1 h2⟩
theorem RoundI.put {P0 : TabP} {bx tt : Nat} {st : Chart.St} {FN : List Nat} {W8 : World} {k : Nat} {W : World} (h : RoundI P0 bx tt st FN W8 k W) {D : Nat} {o : Obj} (o' : Obj) (hb : P0.base ≤ W8.heap.size) (hD : W8.heap.size ≤ D) (ho : W.heap[D]? = some o) (hc : ∀ c t z, o ≠ .cells c t z) (hm : ∀ es c, o ≠ .map es c) : RoundI P0 bx tt st FN W8 k (W.putObj D o') := by
 obtain ⟨im, em, hT, hC⟩ := h
 exact ⟨im, em, hT.other ho hc hm (Nat.le_trans hb hD) (grownBy_putObj' W D o'), hC.put hD o'⟩
theorem RoundI.alloc {P0 : TabP} {bx tt : Nat} {st : Chart.St} {FN : List Nat} {W8 : World} {k : Nat} {W : World} (h : RoundI P0 bx tt st FN W8 k W) (o : Obj) : RoundI P0 bx tt st FN W8 k (W.alloc o) := by
 obtain ⟨im, em, hT, hC⟩ := h
 exact ⟨im, em, hT.belowW (ba_ (Below.refl _ _) o), hC.trans (Calm.below (ba_ (Below.refl _ _) o))⟩
def xm_ (w : World) (g : Nat) (W : World) (ds : List Deferred) : Prop :=
 ∃ Ds : List Nat, ds = Ds.map mark ++ [{ target := .fn (.func 28) #[.pointer (some ⟨g, 0, none⟩)], args := #[] }] ∧ Ds.Nodup ∧ ∀ D ∈ Ds, W.heap[D]? = some (.deferred (some [])) ∧ w.heap.size ≤ D
def sg_ (rules : List qa_) (toks : List Tok') (n most : Nat) (w : World) (e : Ending) (w' : World) : Prop :=
 ∃ (tb b3 : Nat) (m : List (Key3 × Int)), e = .returned (.pointer (some ⟨tb, 0, none⟩)) ∧ w'.cell? ⟨tb, 3, none⟩ = some (.map (some b3)) ∧ MapOf Tryz.prog 42 encK w' b3 (encC m) ∧ Below w.heap.size w w' ∧
  (∀ (s : Int) (p q : Nat), (mget m (s, (p : Int), (q : Int))).getD 0 = if xa_ rules = true then ((Chart.cap most (Chart.Num (tokT toks) n (jb_ rules) s p q) : Nat) : Int) else 0) ∧
  ∀ kv ∈ m, ∃ (s : Int) (p q : Nat), kv.1 = (s, (p : Int), (q : Int)) ∧ xa_ rules = true ∧ Chart.Num (tokT toks) n (jb_ rules) s p q ≠ 0
def po_ (F : Fence) (n : Nat) (P : Program) (fn : Func) (R : Ending → World → Prop) : Exit → Act → World → Prop
 | .normal, a, w | .ret, a, w => LeavesInM F n P fn a.tmps R a.defers .returning w
 | .outgrown, _, w => R .outgrown w
 | _, _, _ => False
theorem wr_ {F : Fence} {n : Nat} {P : Program} {fn : Func} {R : Ending → World → Prop} (e : Exit) (a : Act) (w : World) (h : po_ F n P fn R e a w) : bodyPostM F n P fn R e a w := by
 cases e <;> first | exact h | exact h.elim
theorem ew_ (P : TabP) (rules : List qa_) (toks : List Tok') (size n : Nat) (hP : P.rl = jb_ rules) (htk : P.tk = tkL toks) (hm : 0 < P.most) (hch : xa_ rules = true) (hO : OutOk (cc_ rules) P.order ∧ P.order.length = (cc_ rules).length)
  (hT : ∀ x ∈ toks, (0 ≤ x.f0 ∧ x.f0 < x.f1 ∧ x.f1 ≤ (n : Int) ∧ x.f1 ≤ (size : Int)) ∧ (-1000000 ≤ x.f2 ∧ x.f2 ≤ 1000000)) (FN TN : List Nat) (hF : FN = (fd_ (qc_ toks (size : Int))).map Int.toNat) (hN : TN = (fd_ (tosL toks (size : Int))).map Int.toNat) (s : Int) (p q : Nat) :
  (fillK P FN TN TN.length).cells s p q = Chart.cap P.most (Chart.Num (tokT toks) n (jb_ rules) s p q) := by
 have eT : P.T = tokT toks := by
  funext x p q
  unfold TabP.T
  rw [htk, nl_]
  rfl
 have hin : ∀ x p q, tokT toks x p q ≠ 0 → ∃ t ∈ toks, t.f0 = (p : Int) ∧ t.f1 = (q : Int) := by
  intro x p q h
  unfold tokT at h
  obtain ⟨t, ht⟩ := List.exists_mem_of_ne_nil (toks.filter fun t => decide (pd_ t = (-1 - x, (p : Int), (q : Int)))) (fun e => h (by rw [e]; rfl))
  rw [List.mem_filter] at ht
  have h2 := of_decide_eq_true ht.2
  unfold pd_ at h2
  injection h2 with _ h2
  injection h2 with h2 h3
  exact ⟨t, ht.1, h2, h3⟩
 have hb : ∀ t ∈ toks, tokB (size : Int) t = true := fun t ht => by
  have := hT t ht
  unfold tokB
  simp
  omega
 have hsort : ∀ l : List Int, (∀ x ∈ l, 0 ≤ x) → ((fd_ l).map Int.toNat).Pairwise (· < ·) := fun l hl => by
  rw [List.pairwise_map]
  refine List.Pairwise.imp_of_mem ?_ (md_ l).2
  intro a b ha hb hab
  have h1 := hl a (((md_ l).1 a).1 ha)
  have h2 := hl b (((md_ l).1 b).1 hb)
  omega
 have hmem : ∀ (l : List Int) (p : Nat), (p : Int) ∈ l → p ∈ (fd_ l).map Int.toNat := fun l p h => List.mem_map.2 ⟨(p : Int), ((md_ l).1 _).2 h, Int.toNat_natCast p⟩
 rw [gw_, hP, eT, hF, hN]
 refine Chart.fill_spec _ _ _ _ hm (fun x p q h => ?_) (ig_ rules hch) (ej_ rules) (xn_ rules hch) P.order (order_ok rules hch P.order hO.1 hO.2) (fun x p q h => ?_) (hsort _ fun x hx => ?_) (hsort _ fun x hx => ?_) (fun q hq => ?_) s p q
 ·refine Classical.byContradiction fun h1 => ?_
  obtain ⟨t, ht, h2, h3⟩ := hin x p q h1
  have := hT t ht
  omega
 ·obtain ⟨t, ht, h2, h3⟩ := hin x p q h
  exact ⟨hmem _ _ (List.mem_map.2 ⟨t, List.mem_filter.2 ⟨ht, hb t ht⟩, h2⟩), hmem _ _ (List.mem_map.2 ⟨t, List.mem_filter.2 ⟨ht, hb t ht⟩, h3⟩)⟩
 ·obtain ⟨t, ht, rfl⟩ := List.mem_map.1 hx
  exact (hT t (List.mem_filter.1 ht).1).1.1
 ·obtain ⟨t, ht, rfl⟩ := List.mem_map.1 hx
  have := (hT t (List.mem_filter.1 ht).1).1
  omega
 obtain ⟨y, hy, rfl⟩ := List.mem_map.1 hq
 obtain ⟨t, ht, rfl⟩ := List.mem_map.1 (((md_ _).1 y).1 hy)
 have := (hT t (List.mem_filter.1 ht).1).1
 omega
set_option maxHeartbeats 4000000 in
set_option maxRecDepth 100000 in
theorem it_ (A0 : Option Addr) (c0 : Nat) (rules : List qa_) (A1 : Option Addr) (c1 : Nat) (toks : List Tok') (size n most : Nat) (w : World) (hr0 : Kd.C k48 w A0 rules.length rules) (hc0 : rules.length ≤ c0)
  (hr1 : Kd.C k31 w A1 toks.length toks) (hc1 : toks.length ≤ c1) (hrl : rules.length ≤ 1000000) (htl : toks.length ≤ 1000) (hm1 : 1 ≤ most) (hm2 : most ≤ 1000000000) (hn : n ≤ 1000000) (hsz : size ≤ 1000000)
  (hch : xa_ rules = false) (htk : ∀ x ∈ toks, (0 ≤ x.f0 ∧ x.f0 < x.f1 ∧ x.f1 ≤ (n : Int) ∧ x.f1 ≤ (size : Int)) ∧ (-1000000 ≤ x.f2 ∧ x.f2 ≤ 1000000)) :
  Calls Tryz.prog 18 #[.slice A0 rules.length c0, .slice A1 toks.length c1, .int .i64 (size : Int), .int .i64 (most : Int)] w fun e w' => sg_ rules toks n most w e w' := by
 have hmf : ∀ (fn : Fn) (first cap : Array Value) (w : World), (Instr.makeFunc fn first cap).run Tryz.prog w = .ok (.func fn first cap) w := fun _ _ _ _ => rfl
 have hmk := @run_makeMap Tryz.prog
 have HR0 := Aside0.mk hr0
 have HR1 := Aside0.mk hr1
 have HTK := Aside0.mk htk
 have HCH := Aside0.mk hch
 clear hr0 hr1 htk hch
 refine (callsIn_wide (n := 6)).1 (callsIn_of_wp_marks Tryz.func18 rfl trivial (wpIn_wide.2 ?_) rfl)
 simp only [Tryz.ntmps18, List.size_toArray, List.length_cons, List.length_nil, Nat.reduceAdd, Nat.reduceSub, Array.replicate_succ, Array.replicate_zero, List.push_toArray, List.append_toArray, List.nil_append, List.cons_append]
 go_wp2_with fail
 have hpre := mi_ w most
 generalize (((((w.alloc (.cells #[.pointer (some ⟨w.heap.size + 1 + 1 + 1 + 1 + 1, 0, none⟩)] 59)).alloc (.map #[] 0)).alloc (.map #[] 0)).alloc (.map #[] 0)).alloc (.map #[] 0)).alloc (.cells #[.slice none 0 0, .slice none 0 0, .map (some (w.heap.size + 1)), .map (some (w.heap.size + 1 + 1)), .map (some (w.heap.size + 1 + 1 + 1)), .map (some (w.heap.size + 1 + 1 + 1 + 1)), .int .i64 (most : Int)] 58) = W1 at *
 generalize w.heap.size + 1 + 1 + 1 + 1 + 1 = tb at *
 generalize w.heap.size + 1 + 1 + 1 + 1 = b5 at *
 generalize w.heap.size + 1 + 1 + 1 = b4 at *
 generalize w.heap.size + 1 + 1 = b3 at *
 generalize w.heap.size + 1 = b2 at *
 generalize w.heap.size = g at *
 refine (gram_Check.calls A0 c0 rules false W1 (Kd.C_below HR0.out hpre.below) hc0 (by rw [← HCH.out]; rfl)).mono ?_
 rintro e W2 ⟨rfl, hb2⟩
 have HP := Aside0.mk (hpre.belowW hb2)
 clear hpre hb2
 go_wp2
 have eg : ∀ args w, (callFunc 28 args).run Tryz.prog w = .ok (.enter 28 args) w := enters_of Tryz.func28 (by kernel_rfl) rfl
 refine ⟨by simp, .inr ⟨fun h => absurd h (by decide), .func 28, #[.pointer (some ⟨g, 0, none⟩)], 28, #[.pointer (some ⟨g, 0, none⟩)], rfl, by simp [invoke, go_sem, eg], fun _ _ => trivial, ?_⟩⟩
 refine (pr_ 5 g tb _ _ [] W2 _ _ _ _ _ _ _ (ca_ HP.out.res 0) HP.out.blk).mono ?_
 rintro e u' w' ⟨rfl, rfl, rfl⟩
 have hres : ((W2.alloc (.map #[] 0)).setCell ⟨tb, 3, none⟩ (.map (some W2.heap.size))).heap[g]? = some (.cells #[.pointer (some ⟨tb, 0, none⟩)] 59 (0, 0)) := jc_ (va_ (o' := .map #[] 0) HP.out.res) HP.out.apart.2 _
 have hblk := yg_ (va_ (o' := .map #[] 0) HP.out.blk) 3 (.map (some W2.heap.size))
 have hmp : MapOf Tryz.prog 42 encK ((W2.alloc (.map #[] 0)).setCell ⟨tb, 3, none⟩ (.map (some W2.heap.size))) W2.heap.size (encC ([] : List (Key3 × Int))) := (MapOf.made _ _ _ W2).setCell _ (fun e => by have := ic_ HP.out.blk; simp at e; omega) _
 have hbl : Below w.heap.size w ((W2.alloc (.map #[] 0)).setCell ⟨tb, 3, none⟩ (.map (some W2.heap.size))) := (ba_ HP.out.below (.map #[] 0)).setCell (p := ⟨tb, 3, none⟩) HP.out.ge.2.1 _
 have hcr : ((W2.alloc (.map #[] 0)).setCell ⟨tb, 3, none⟩ (.map (some W2.heap.size))).cell? ⟨g, 0, none⟩ = some (.pointer (some ⟨tb, 0, none⟩)) := ca_ hres 0
 have hc3 : ((W2.alloc (.map #[] 0)).setCell ⟨tb, 3, none⟩ (.map (some W2.heap.size))).cell? ⟨tb, 3, none⟩ = some (.map (some W2.heap.size)) := ca_ hblk 3
 generalize (W2.alloc (.map #[] 0)).setCell ⟨tb, 3, none⟩ (.map (some W2.heap.size)) = W3 at *
 have hend : sg_ rules toks n most w (.returned (.pointer (some ⟨tb, 0, none⟩))) W3 := ⟨tb, W2.heap.size, [], rfl, hc3, hmp, hbl, fun s p q => by rw [HCH.out]; simp [mget], fun kv hkv => by simp at hkv⟩
 clear hres hblk hmp hbl hc3
 refine ⟨.pointer (some ⟨tb, 0, none⟩), ?_, hend⟩
 simp [results, Tryz.results18, go_sem, hcr]
set_option maxHeartbeats 4000000 in
set_option maxRecDepth 100000 in
theorem dw_ (A0 : Option Addr) (c0 : Nat) (rules : List qa_) (A1 : Option Addr) (c1 : Nat) (toks : List Tok') (size n most : Nat) (w : World) (hr0 : Kd.C k48 w A0 rules.length rules) (hc0 : rules.length ≤ c0)
  (hr1 : Kd.C k31 w A1 toks.length toks) (hc1 : toks.length ≤ c1) (hrl : rules.length ≤ 1000000) (htl : toks.length ≤ 1000) (hm1 : 1 ≤ most) (hm2 : most ≤ 1000000000) (hn : n ≤ 1000000) (hsz : size ≤ 1000000)
  (hch : xa_ rules = true) (htk : ∀ x ∈ toks, (0 ≤ x.f0 ∧ x.f0 < x.f1 ∧ x.f1 ≤ (n : Int) ∧ x.f1 ≤ (size : Int)) ∧ (-1000000 ≤ x.f2 ∧ x.f2 ≤ 1000000)) :
  Calls Tryz.prog 18 #[.slice A0 rules.length c0, .slice A1 toks.length c1, .int .i64 (size : Int), .int .i64 (most : Int)] w fun e w' => sg_ rules toks n most w e w' := by
 have hmf : ∀ (fn : Fn) (first cap : Array Value) (w : World), (Instr.makeFunc fn first cap).run Tryz.prog w = .ok (.func fn first cap) w := fun _ _ _ _ => rfl
 have hmk := @run_makeMap Tryz.prog
 have HR0 := Aside0.mk hr0
 have HR1 := Aside0.mk hr1
 have HTK := Aside0.mk htk
 have HCH := Aside0.mk hch
 clear hr0 hr1 htk hch
 refine (callsIn_wide (n := 6)).1 (callsIn_of_wp_marks Tryz.func18 rfl trivial (wpIn_wide.2 (wp_mono (Q := po_ Fence.wide 6 Tryz.prog Tryz.f18 fun e w' => sg_ rules toks n most w e w') ?_ wr_)) rfl)
 simp only [Tryz.ntmps18, List.size_toArray, List.length_cons, List.length_nil, Nat.reduceAdd, Nat.reduceSub, Array.replicate_succ, Array.replicate_zero, List.push_toArray, List.append_toArray, List.nil_append, List.cons_append]
 go_wp2_with fail
 have hpre := mi_ w most
 generalize (((((w.alloc (.cells #[.pointer (some ⟨w.heap.size + 1 + 1 + 1 + 1 + 1, 0, none⟩)] 59)).alloc (.map #[] 0)).alloc (.map #[] 0)).alloc (.map #[] 0)).alloc (.map #[] 0)).alloc (.cells #[.slice none 0 0, .slice none 0 0, .map (some (w.heap.size + 1)), .map (some (w.heap.size + 1 + 1)), .map (some (w.heap.size + 1 + 1 + 1)), .map (some (w.heap.size + 1 + 1 + 1 + 1)), .int .i64 (most : Int)] 58) = W1 at *
 generalize w.heap.size + 1 + 1 + 1 + 1 + 1 = tb at *
 generalize w.heap.size + 1 + 1 + 1 + 1 = b5 at *
 generalize w.heap.size + 1 + 1 + 1 = b4 at *
 generalize w.heap.size + 1 + 1 = b3 at *
 generalize w.heap.size + 1 = b2 at *
 generalize w.heap.size = g at *
 refine (gram_Check.calls A0 c0 rules true W1 (Kd.C_below HR0.out hpre.below) hc0 (by rw [← HCH.out]; rfl)).mono ?_
 rintro e W2 ⟨rfl, hb2⟩
 have HP := Aside0.mk (hpre.belowW hb2)
 clear hpre hb2
 have HFA := Aside0.mk (qr_ rules HCH.out)
 have hun : gram_Units.f rules = some (cc_ rules) := by
  unfold gram_Units.f
  rw [if_pos]
  have h1 := (bc_ rules).1 HCH.out
  exact sj_ rules h1.1 h1.2.1
 have HUN := Aside0.mk hun
 clear hun hmk hmf
 go_wp2
 have HP0 : Aside0 (FillPre w W2.drew g tb b2 b3 b4 b5 #[.slice none 0 0, .slice none 0 0, .map (some b2), .map (some b3), .map (some b4), .map (some b5), .int .i64 (most : Int)] []) := ⟨HP.out.belowW (xb_ (Below.refl _ _))⟩
 have r0 : W2.drew.cell? ⟨g, 0, none⟩ = some (.pointer (some ⟨tb, 0, none⟩)) := ca_ HP0.out.res 0
 clear HP
 refine td_ (n := 12) (S := fun w' => w'.cell? ⟨g, 0, none⟩ = some (.pointer (some ⟨tb, 0, none⟩))) (ds := [11]) (f_ 12 0) (by kernel_rfl) rfl rfl r0 (fun hHeld => ?_)
 clear r0
 generalize W2.drew = W2 at *
 refine take_ (i := 0) (N := some 32) (v := ?_) (a' := ?_) (f_ 12 1) rfl rfl (by kernel_rfl) (fun _ _ _ h => h) (Or.inl ⟨by rfl, ?_⟩) hHeld ?_ ?_
 rotate_left
 ·rintro w' s0
  go_simp
  try with_reducible rfl
 rotate_left
 ·simp only [Act.put, s1_, s2_, s3_, ka_, la_]
  rfl
 refine take_ (i := 1) (N := some 33) (v := ?_) (a' := ?_) (f_ 12 2) rfl rfl (by kernel_rfl) (fun _ _ _ h => h) (Or.inl ⟨by rfl, ?_⟩) hHeld ?_ ?_
 rotate_left
 ·rintro w' s0
  go_simp
  try with_reducible rfl
 rotate_left
 ·simp only [Act.put, s1_, s2_, s3_, ka_, la_]
  rfl
 refine pa_ (i := 2) (N := some 34) (v := ?_) (a' := ?_) (f_ 12 3) rfl rfl (by kernel_rfl) (fun _ _ _ h => h) (Or.inl ⟨by rfl, ?_⟩) ?_ ?_
 rotate_left
 ·intro w'
  go_simp
  try with_reducible rfl
 rotate_left
 ·simp only [Act.put, s1_, s2_, s3_, ka_, la_]
  rfl
 refine pa_ (i := 3) (N := some 35) (v := ?_) (a' := ?_) (f_ 12 4) rfl rfl (by kernel_rfl) (fun _ _ _ h => h) (Or.inl ⟨by rfl, ?_⟩) ?_ ?_
 rotate_left
 ·intro w'
  go_simp
  try with_reducible rfl
 rotate_left
 ·simp only [Act.put, s1_, s2_, s3_, ka_, la_]
  rfl
 refine one_ (i := 4) (N := some 36) (f_ 12 5) rfl rfl (by kernel_rfl) (by decide) (fun K hK => ?_)
 refine vd_ Tryz.func31 (by kernel_rfl) rfl #[.slice A0 rules.length c0] (by rfl) rfl rfl (by (try simp only [List.map_toArray, List.map_cons, List.map_nil]); rfl) ?_
 refine (gram_Units.calls A0 c0 rules (cc_ rules) W2 (Kd.C_below HR0.out HP0.out.below) hc0 HUN.out).mono ?_
 rintro e w3 ⟨v, rfl, hS, hb⟩
 obtain ⟨Au, cu, rfl, hle, hC⟩ := Kd.S_reads hS
 have HP3 := Aside0.mk (HP0.out.belowW hb)
 have HCU := Aside0.mk hC
 rw [ib_] at hle
 clear hS hC hb
 refine ⟨_, rfl, ?_⟩
 refine hK.out _ _ (ca_ HP3.out.res 0) (fun hHeld => ?_)
 clear hK K
 refine rb_ (a' := ?_) ?_ ?_
 rotate_left
 ·show Act.put _ (some 36) _ = _
  simp only [Act.put, s1_, s2_, s3_, ka_, la_]
  rfl
 refine one_ (i := 5) (N := some 37) (f_ 12 6) rfl rfl (by kernel_rfl) (by decide) (fun K hK => ?_)
 refine vd_ Tryz.func30 (by kernel_rfl) rfl #[.slice Au (cc_ rules).length cu] (by rfl) rfl rfl (by (try simp only [List.map_toArray, List.map_cons, List.map_nil]); rfl) ?_
 refine (xs_ Au cu (cc_ rules) w3 HCU.out (by rw [ib_]; exact hle) (by rw [ib_]; omega) (ej_ rules) HFA.out).mono ?_
 rintro e w4 ⟨v, ord, rfl, hR, hO, hL, hb⟩
 obtain ⟨Ao, co, rfl⟩ := Kd.R_slice hR
 have HP4 := Aside0.mk (HP3.out.belowW hb)
 have HRO := Aside0.mk (R_above hR HP3.out.below.size)
 have HOK := Aside0.mk (And.intro hO hL)
 have hs0 : w4.cell? ⟨tb, 0, none⟩ = some (.slice none 0 0) := ca_ HP4.out.blk 0
 have hf0 := fa_ HP4.out.blk 0
 clear hR hO hL hb
 refine ⟨_, rfl, ?_⟩
 refine hK.out _ _ (ca_ HP4.out.res 0) (fun hHeld => ?_)
 clear hK K
 refine rb_ (a' := ?_) ?_ ?_
 rotate_left
 ·show Act.put _ (some 37) _ = _
  simp only [Act.put, s1_, s2_, s3_, ka_, la_]
  rfl
 refine pa_ (i := 6) (N := some 38) (v := ?_) (a' := ?_) (f_ 12 7) rfl rfl (by kernel_rfl) (fun _ _ _ h => h) (Or.inl ⟨by rfl, ?_⟩) ?_ ?_
 rotate_left
 ·intro w'
  go_simp
  try with_reducible rfl
 rotate_left
 ·simp only [Act.put, s1_, s2_, s3_, ka_, la_]
  rfl
 refine pa_ (i := 7) (N := some 39) (v := ?_) (a' := ?_) (f_ 12 8) rfl rfl (by kernel_rfl) (fun _ _ _ h => h) (Or.inl ⟨by rfl, ?_⟩) ?_ ?_
 rotate_left
 ·intro w'
  go_simp
  try with_reducible rfl
 rotate_left
 ·simp only [Act.put, s1_, s2_, s3_, ka_, la_]
  rfl
 refine one_ (i := 8) (N := none) (f_ 12 9) rfl rfl (by kernel_rfl) (by decide) (fun K hK => ?_)
 refine rn_ (w1 := ?_) (by rfl) rfl ?_ ?_
 rotate_left
 ·go_simp
  rfl
 have HP5 := Aside0.mk (HP4.out.set 0 (.slice A0 rules.length c0))
 have hs1 : (w4.setCell ⟨tb, 0, none⟩ (.slice A0 rules.length c0)).cell? ⟨tb, 1, none⟩ = some (.slice none 0 0) := ca_ HP5.out.blk 1
 have hf1 := fa_ HP5.out.blk 1
 refine hK.out _ _ (ca_ HP5.out.res 0) (fun hHeld => ?_)
 clear hK K
 refine pa_ (i := 9) (N := some 40) (v := ?_) (a' := ?_) (f_ 12 10) rfl rfl (by kernel_rfl) (fun _ _ _ h => h) (Or.inl ⟨by rfl, ?_⟩) ?_ ?_
 rotate_left
 ·intro w'
  go_simp
  try with_reducible rfl
 rotate_left
 ·simp only [Act.put, s1_, s2_, s3_, ka_, la_]
  rfl
 refine pa_ (i := 10) (N := some 41) (v := ?_) (a' := ?_) (f_ 12 11) rfl rfl (by kernel_rfl) (fun _ _ _ h => h) (Or.inl ⟨by rfl, ?_⟩) ?_ ?_
 rotate_left
 ·intro w'
  go_simp
  try with_reducible rfl
 rotate_left
 ·simp only [Act.put, s1_, s2_, s3_, ka_, la_]
  rfl
 refine kg_ (i := 11) (N := none) (f_ 12 12) rfl rfl (by kernel_rfl) (by decide) (fun K hK => ?_)
 refine rn_ (w1 := ?_) (by rfl) rfl ?_ ?_
 rotate_left
 ·go_simp
  rfl
 have HP6 := Aside0.mk (HP5.out.set 1 (.slice Ao ord.length co))
 refine hK.out _ _ ?_
 clear hK K
 refine je_ (by kernel_rfl) ?_
 have HP7 : Aside0 (FillPre w ((w4.setCell ⟨tb, 0, none⟩ (.slice A0 rules.length c0)).setCell ⟨tb, 1, none⟩ (.slice Ao ord.length co)) g tb b2 b3 b4 b5 #[.slice A0 rules.length c0, .slice Ao ord.length co, .map (some b2), .map (some b3), .map (some b4), .map (some b5), .int .i64 (most : Int)] (tkL (toks.take 0))) := ⟨HP6.out⟩
 have HRO7 : Aside0 (Kd.R (Kd.int .i64) 3 ((w4.setCell ⟨tb, 0, none⟩ (.slice A0 rules.length c0)).setCell ⟨tb, 1, none⟩ (.slice Ao ord.length co)) w.heap.size (fun _ => True) (.slice Ao ord.length co) ord) := ⟨by
  have hlt := ic_ HP3.out.blk
  have h1 := Kd.R_far (p := ⟨tb, 0, none⟩) HRO.out (fun k hk e => by simp at e; omega) (.slice A0 rules.length c0)
  have h2 := Kd.R_far (p := ⟨tb, 1, none⟩) h1 (fun k hk e => by simp at e; omega) (.slice Ao ord.length co)
  exact Kd.R_mono h2 (fun _ _ => trivial)⟩
 clear hs0 hf0 hs1 hf1 hHeld HP0 HP3 HP4 HP5 HP6 HRO HCU hle HUN HFA
 generalize (w4.setCell ⟨tb, 0, none⟩ (.slice A0 rules.length c0)).setCell ⟨tb, 1, none⟩ (.slice Ao ord.length co) = W5 at *
 go_wp2
 go_loopg [44] toks.length (fun gg s44 wr => ∃ kk : Nat, kk ≤ toks.length ∧ toks.length - kk ≤ gg ∧ s44 = .int .i64 kk ∧ Aside0 (FillPre w wr g tb b2 b3 b4 b5 #[.slice A0 rules.length c0, .slice Ao ord.length co, .map (some b2), .map (some b3), .map (some b4), .map (some b5), .int .i64 (most : Int)] (tkL (toks.take kk))) ∧ Aside0 (Kd.R (Kd.int .i64) 3 wr w.heap.size (fun _ => True) (.slice Ao ord.length co) ord))
 case atStart => exact ⟨0, Nat.zero_le _, by omega, rfl, HP7, HRO7⟩
 clear HP7 HRO7
 obtain ⟨kk, hkk, hgg, rfl, HP, HO⟩ := hrel
 by_cases hlt : kk < toks.length
 ·have hltz : (kk : Int) < (toks.length : Int) := by omega
  obtain ⟨ad, hA, h0, h1, h2, h3, h4⟩ := bh_ (Kd.C_below HR1.out HP.out.below) (kk : Int) (by omega) hltz
  subst hA
  have hx : bb_ toks (kk : Int) = toks[kk] := by
   show toks.getD (kk : Int).toNat _ = _
   rw [Int.toNat_natCast, List.getD_eq_getElem?_getD, List.getElem?_eq_getElem hlt]
   rfl
  have hsn := tkL_snoc toks kk hlt
  have hty := HTK.out _ (List.getElem_mem hlt)
  have hcn := nl_ (toks.take kk)
  have htk2 := List.length_take_le kk toks
  rw [← hx] at hsn hty
  generalize bb_ toks (kk : Int) = y at *
  rw [Int.toNat_natCast] at h0 h1 h2 h3 h4
  obtain ⟨⟨ht0, ht1, ht2, ht3⟩, ht4, ht5⟩ := hty
  have hc0' : 0 ≤ (mget (tkL (toks.take kk)) (pd_ y)).getD 0 ∧ (mget (tkL (toks.take kk)) (pd_ y)).getD 0 ≤ 1000 := by
   rw [hcn]
   have := List.length_filter_le (fun x => decide (pd_ x = pd_ y)) (toks.take kk)
   omega
  generalize tkL (toks.take kk) = tk at *
  have HSN := Aside0.mk hsn
  have HP1 := Aside0.mk (HP.out.belowW (ba_ (Below.refl wr.heap.size wr) (.cells #[.int .i64 y.f0, .int .i64 y.f1, .int .i64 y.f2, .int .i64 y.f3, .int .i64 y.f4] 31)))
  have HO1 := Aside0.mk (Kd.R_below HO.out (ba_ (Below.refl wr.heap.size wr) (.cells #[.int .i64 y.f0, .int .i64 y.f1, .int .i64 y.f2, .int .i64 y.f3, .int .i64 y.f4] 31)))
  have HBX := Aside0.mk (pb_ wr (.cells #[.int .i64 y.f0, .int .i64 y.f1, .int .i64 y.f2, .int .i64 y.f3, .int .i64 y.f4] 31))
  clear hx hsn hcn HP HO
  go_wp2
  clear h0 h1 h2 h3 h4
  generalize wr.alloc (.cells #[.int .i64 y.f0, .int .i64 y.f1, .int .i64 y.f2, .int .i64 y.f3, .int .i64 y.f4] 31) = W1 at *
  generalize wr.heap.size = bx at *
  have HP2 := Aside0.mk (HP1.out.belowW (W1 := W1.drew) (xb_ (Below.refl _ _)))
  have HO2 : Aside0 (Kd.R (Kd.int .i64) 3 W1.drew w.heap.size (fun _ => True) (.slice Ao ord.length co) ord) := ⟨Kd.R_below HO1.out (xb_ (Below.refl _ _))⟩
  have HBX2 : Aside0 (W1.drew.heap[bx]? = some (.cells #[.int .i64 y.f0, .int .i64 y.f1, .int .i64 y.f2, .int .i64 y.f3, .int .i64 y.f4] 31 (0, 0))) := ⟨HBX.out⟩
  have hkey := pf_ (a := y.f2) (b := y.f0) (c := y.f1) ⟨by omega, by omega⟩ ⟨by omega, by omega⟩ ⟨by omega, by omega⟩
  have hl := HP2.out.m2.lookup fe_ wc_ Tryz.underlying54 (rd_ W1.drew) (y.f2, y.f0, y.f1) hkey false
  simp only [se_, Bool.false_eq_true, if_false] at hl
  have HKEY := Aside0.mk hkey
  have HC0 : Aside0 ((mget tk (y.f2, y.f0, y.f1)).getD 0 = (mget tk (pd_ y)).getD 0) := ⟨rfl⟩
  rw [HC0.out] at hl
  have hgz := se_ tk (y.f2, y.f0, y.f1)
  rw [HC0.out] at hgz
  have HGZ := Aside0.mk hgz
  generalize hcv : (mget tk (pd_ y)).getD 0 = cv at *
  have HCV := Aside0.mk hcv
  have r0 : W1.drew.cell? ⟨g, 0, none⟩ = some (.pointer (some ⟨tb, 0, none⟩)) := ca_ HP2.out.res 0
  have r1 : W1.drew.cell? ⟨tb, 2, none⟩ = some (.map (some b2)) := ca_ HP2.out.blk 2
  have r2 : W1.drew.cell? ⟨bx, 0, none⟩ = some (.int .i64 y.f0) := ca_ HBX2.out 0
  have r3 : W1.drew.cell? ⟨bx, 1, none⟩ = some (.int .i64 y.f1) := ca_ HBX2.out 1
  have r4 : W1.drew.cell? ⟨bx, 2, none⟩ = some (.int .i64 y.f2) := ca_ HBX2.out 2
  have r5 : (Instr.lookup 54 (.map (some b2)) (.agg #[.int .i64 y.f2, .int .i64 y.f0, .int .i64 y.f1]) false).run Tryz.prog W1.drew = .ok (.int .i64 cv) W1.drew := hl
  obtain ⟨hcv0, hcv1⟩ := hc0'
  clear hl hkey hgz hcv HP1 HO1 HBX
  refine td_ (n := 16) (S := fun w' => w'.cell? ⟨g, 0, none⟩ = some (.pointer (some ⟨tb, 0, none⟩)) ∧ w'.cell? ⟨tb, 2, none⟩ = some (.map (some b2)) ∧ w'.cell? ⟨bx, 0, none⟩ = some (.int .i64 y.f0) ∧ w'.cell? ⟨bx, 1, none⟩ = some (.int .i64 y.f1) ∧ w'.cell? ⟨bx, 2, none⟩ = some (.int .i64 y.f2) ∧ (Instr.lookup 54 (.map (some b2)) (.agg #[.int .i64 y.f2, .int .i64 y.f0, .int .i64 y.f1]) false).run Tryz.prog w' = .ok (.int .i64 cv) w') (ds := [15]) (f_ 16 0) (by kernel_rfl) rfl rfl ⟨r0, r1, r2, r3, r4, r5⟩ (fun hHeld => ?_)
  clear r0 r1 r2 r3 r4 r5
  have hwv : wrap64 (cv + 1) = cv + 1 := by unfold wrap64; omega
  generalize W1.drew = W2 at *
  refine take_ (i := 0) (N := some 48) (v := ?_) (a' := ?_) (f_ 16 1) rfl rfl (by kernel_rfl) (fun _ _ _ h => h) (Or.inl ⟨by rfl, ?_⟩) hHeld ?_ ?_
  rotate_left
  ·rintro w' ⟨s0, s1, s2, s3, s4, s5⟩
   go_simp
   try with_reducible rfl
  rotate_left
  ·simp only [Act.put, s1_, s2_, s3_, ka_, la_]
   rfl
  refine pa_ (i := 1) (N := some 49) (v := ?_) (a' := ?_) (f_ 16 2) rfl rfl (by kernel_rfl) (fun _ _ _ h => h) (Or.inl ⟨by rfl, ?_⟩) ?_ ?_
  rotate_left
  ·intro w'
   go_simp
   try with_reducible rfl
  rotate_left
  ·simp only [Act.put, s1_, s2_, s3_, ka_, la_]
   rfl
  refine pa_ (i := 2) (N := some 50) (v := ?_) (a' := ?_) (f_ 16 3) rfl rfl (by kernel_rfl) (fun _ _ _ h => h) (Or.inl ⟨by rfl, ?_⟩) ?_ ?_
  rotate_left
  ·intro w'
   go_simp
   try with_reducible rfl
  rotate_left
  ·simp only [Act.put, s1_, s2_, s3_, ka_, la_]
   rfl
  refine take_ (i := 3) (N := some 51) (v := ?_) (a' := ?_) (f_ 16 4) rfl rfl (by kernel_rfl) (fun _ _ _ h => h) (Or.inl ⟨by rfl, ?_⟩) hHeld ?_ ?_
  rotate_left
  ·rintro w' ⟨s0, s1, s2, s3, s4, s5⟩
   go_simp
   try with_reducible rfl
  rotate_left
  ·simp only [Act.put, s1_, s2_, s3_, ka_, la_]
   rfl
  refine pa_ (i := 4) (N := some 52) (v := ?_) (a' := ?_) (f_ 16 5) rfl rfl (by kernel_rfl) (fun _ _ _ h => h) (Or.inl ⟨by rfl, ?_⟩) ?_ ?_
  rotate_left
  ·intro w'
   go_simp
   try with_reducible rfl
  rotate_left
  ·simp only [Act.put, s1_, s2_, s3_, ka_, la_]
   rfl
  refine take_ (i := 5) (N := some 53) (v := ?_) (a' := ?_) (f_ 16 6) rfl rfl (by kernel_rfl) (fun _ _ _ h => h) (Or.inl ⟨by rfl, ?_⟩) hHeld ?_ ?_
  rotate_left
  ·rintro w' ⟨s0, s1, s2, s3, s4, s5⟩
   go_simp
   try with_reducible rfl
  rotate_left
  ·simp only [Act.put, s1_, s2_, s3_, ka_, la_]
   rfl
  refine pa_ (i := 6) (N := some 54) (v := ?_) (a' := ?_) (f_ 16 7) rfl rfl (by kernel_rfl) (fun _ _ _ h => h) (Or.inl ⟨by rfl, ?_⟩) ?_ ?_
  rotate_left
  ·intro w'
   go_simp
   try with_reducible rfl
  rotate_left
  ·simp only [Act.put, s1_, s2_, s3_, ka_, la_]
   rfl
  refine take_ (i := 7) (N := some 55) (v := ?_) (a' := ?_) (f_ 16 8) rfl rfl (by kernel_rfl) (fun _ _ _ h => h) (Or.inl ⟨by rfl, ?_⟩) hHeld ?_ ?_
  rotate_left
  ·rintro w' ⟨s0, s1, s2, s3, s4, s5⟩
   go_simp
   try with_reducible rfl
  rotate_left
  ·simp only [Act.put, s1_, s2_, s3_, ka_, la_]
   rfl
  refine pa_ (i := 8) (N := some 56) (v := ?_) (a' := ?_) (f_ 16 9) rfl rfl (by kernel_rfl) (fun _ _ _ h => h) (Or.inl ⟨by rfl, ?_⟩) ?_ ?_
  rotate_left
  ·intro w'
   go_simp
   try with_reducible rfl
  rotate_left
  ·simp only [Act.put, s1_, s2_, s3_, ka_, la_]
   rfl
  refine take_ (i := 9) (N := some 57) (v := ?_) (a' := ?_) (f_ 16 10) rfl rfl (by kernel_rfl) (fun _ _ _ h => h) (Or.inl ⟨by rfl, ?_⟩) hHeld ?_ ?_
  rotate_left
  ·rintro w' ⟨s0, s1, s2, s3, s4, s5⟩
   go_simp
   try with_reducible rfl
  rotate_left
  ·simp only [Act.put, s1_, s2_, s3_, ka_, la_]
   rfl
  refine pa_ (i := 10) (N := some 58) (v := ?_) (a' := ?_) (f_ 16 11) rfl rfl (by kernel_rfl) (fun _ _ _ h => h) (Or.inl ⟨by rfl, ?_⟩) ?_ ?_
  rotate_left
  ·intro w'
   go_simp
   try with_reducible rfl
  rotate_left
  ·simp only [Act.put, s1_, s2_, s3_, ka_, la_]
   rfl
  refine take_ (i := 11) (N := some 59) (v := ?_) (a' := ?_) (f_ 16 12) rfl rfl (by kernel_rfl) (fun _ _ _ h => h) (Or.inl ⟨by rfl, ?_⟩) hHeld ?_ ?_
  rotate_left
  ·rintro w' ⟨s0, s1, s2, s3, s4, s5⟩
   go_simp
   try with_reducible rfl
  rotate_left
  ·simp only [Act.put, s1_, s2_, s3_, ka_, la_]
   rfl
  refine pa_ (i := 12) (N := some 60) (v := ?_) (a' := ?_) (f_ 16 13) rfl rfl (by kernel_rfl) (fun _ _ _ h => h) (Or.inl ⟨by rfl, ?_⟩) ?_ ?_
  rotate_left
  ·intro w'
   go_simp
   try with_reducible rfl
  rotate_left
  ·simp only [Act.put, s1_, s2_, s3_, ka_, la_]
   rfl
  refine one_ (i := 13) (N := some 61) (f_ 16 14) rfl rfl (by kernel_rfl) (by decide) (fun K hK => ?_)
  clear hwv
  refine kq_ (by rfl) (.tmp 51) (.tmp 58) 54 3 rfl fe_ wc_ Tryz.underlying54 rd_ rfl HP2.out.m2 (y.f2, y.f0, y.f1) rfl HKEY.out (fun w1 nn hg1 hs1 hm1 hst => ?_)
  obtain ⟨m1, hM1, hget1⟩ := hm1
  have hl1 := hM1.lookup fe_ wc_ Tryz.underlying54 (rd_ w1) (y.f2, y.f0, y.f1) HKEY.out false
  rw [hget1, HGZ.out] at hl1
  have HG1 := Aside0.mk hg1
  have HST := Aside0.mk hst
  have q0 : w1.cell? ⟨g, 0, none⟩ = some (.pointer (some ⟨tb, 0, none⟩)) := ca_ (HP2.out.stay hg1 HP2.out.res) 0
  have q1 : w1.cell? ⟨tb, 2, none⟩ = some (.map (some b2)) := ca_ (HP2.out.stay hg1 HP2.out.blk) 2
  have q2 : w1.cell? ⟨bx, 0, none⟩ = some (.int .i64 y.f0) := ca_ (HP2.out.stay hg1 HBX2.out) 0
  have q3 : w1.cell? ⟨bx, 1, none⟩ = some (.int .i64 y.f1) := ca_ (HP2.out.stay hg1 HBX2.out) 1
  have q4 : w1.cell? ⟨bx, 2, none⟩ = some (.int .i64 y.f2) := ca_ (HP2.out.stay hg1 HBX2.out) 2
  have HQ := Aside0.mk (show _ from hl1)
  clear hg1 hs1 hst hM1 hget1 hl1
  refine hK.out _ _ ⟨q0, q1, q2, q3, q4, HQ.out⟩ (fun hHeld2 => ?_)
  clear q0 q1 q2 q3 q4 HQ
  clear hK K
  refine rb_ (a' := ?_) ?_ ?_
  rotate_left
  ·show Act.put _ (some 61) _ = _
   simp only [Act.put, s1_, s2_, s3_, ka_, la_]
   rfl
  refine pa_ (i := 14) (N := some 62) (v := ?_) (a' := ?_) (f_ 16 15) rfl rfl (by kernel_rfl) (fun _ _ _ h => h) (Or.inl ⟨by rfl, ?_⟩) ?_ ?_
  rotate_left
  ·intro w'
   go_simp
   try with_reducible rfl
  rotate_left
  ·simp only [Act.put, s1_, s2_, s3_, ka_, la_]
   rfl
  refine kg_ (i := 15) (N := none) (f_ 16 16) rfl rfl (by kernel_rfl) (by decide) (fun K hK => ?_)
  obtain ⟨w2, hrun2, hM2, hg2, _⟩ := HST.out w1 rfl (.int .i64 (wrap64 (cv + 1)))
  have hwv2 : wrap64 (cv + 1) = cv + 1 := by unfold wrap64; omega
  rw [hwv2] at hM2
  clear hwv2
  have hM2' : MapOf Tryz.prog 42 encK w2 b2 (encC (tkL (toks.take (kk + 1)))) := by
   rw [HSN.out]
   unfold ol_
   rw [HCV.out]
   have e1 : mput (encC tk) (y.f2, y.f0, y.f1) (Value.int .i64 (cv + 1)) = encC (mput tk (pd_ y) (cv + 1)) := jg_ (Value.int .i64) _ _ tk
   rw [← e1]
   exact hM2
  have HP9 := Aside0.mk (HP2.out.count hM2' (sk_ HG1.out hg2))
  have HO9 := Aside0.mk (rg_ HO2.out HP2.out.m2.no_cells (sk_ HG1.out hg2))
  refine dh_ (by rfl) (.tmp 51) (.tmp 62) (.tmp 60) 54 rfl rfl rfl rfl hrun2 ?_
  clear hrun2 hM2 hM2' hg2
  refine hK.out _ _ ?_
  clear hK K
  refine je_ (by kernel_rfl) ?_
  go_wp2
  go_roundg (toks.length - (kk + 1))
  case measure => omega
  case rel => exact ⟨kk + 1, by omega, by omega, by go_num, HP9, HO9⟩
 have he : kk = toks.length := by omega
 have hltz : decide ((kk : Int) < (toks.length : Int)) = false := by simp; omega
 have HP1 : Aside0 (FillPre w wr g tb b2 b3 b4 b5 #[.slice A0 rules.length c0, .slice Ao ord.length co, .map (some b2), .map (some b3), .map (some b4), .map (some b5), .int .i64 (most : Int)] (tkL toks)) := ⟨by have := HP.out; rwa [List.take_of_length_le (by omega)] at this⟩
 clear HP he
 go_wp2_with fail
 refine (xq_ A1 c1 toks (size : Int) wr (Kd.C_below HR1.out HP1.out.below) htl).mono ?_
 rintro e W6 ⟨v1, v2, rfl, hT, hB⟩
 obtain ⟨AF, cF, rfl⟩ := Kd.R_slice hT.one
 obtain ⟨AT, cT, rfl⟩ := Kd.R_slice hT.two
 have hF0 : ∀ x ∈ fd_ (qc_ toks (size : Int)), 0 ≤ x ∧ x ≤ 1000000 := fun x hx => by
  have h1 := ((md_ _).1 x).1 hx
  unfold qc_ at h1
  obtain ⟨y, hy, rfl⟩ := List.mem_map.1 h1
  have := HTK.out y (List.mem_filter.1 hy).1
  exact ⟨by omega, by omega⟩
 have hT0 : ∀ x ∈ fd_ (tosL toks (size : Int)), 0 ≤ x ∧ x ≤ 1000000 := fun x hx => by
  have h1 := ((md_ _).1 x).1 hx
  unfold tosL at h1
  obtain ⟨y, hy, rfl⟩ := List.mem_map.1 h1
  have := HTK.out y (List.mem_filter.1 hy).1
  exact ⟨by omega, by omega⟩
 have HT0 := Aside0.mk (yu_ HP1.out HO.out hT hB HR0.out hc0 hrl htl hm1 hm2 HCH.out)
 have HRES := Aside0.mk (za_ HP1.out.res hB)
 have HGE := Aside0.mk (And.intro HP1.out.ge.1 HP1.out.apart.2)
 have hFl : (fd_ (qc_ toks (size : Int))).length ≤ 1000000 := by
  have h1 := Lib.compact_length_le (xc_ (qc_ toks (size : Int)))
  have h2 : (xc_ (qc_ toks (size : Int))).length = (qc_ toks (size : Int)).length := List.length_mergeSort _
  have h3 := ti_ toks (size : Int)
  have h4 : (fd_ (qc_ toks (size : Int))).length = (Lib.compact (xc_ (qc_ toks (size : Int)))).length := rfl
  omega
 have hTl : (fd_ (tosL toks (size : Int))).length ≤ 1000000 := by
  have h1 := Lib.compact_length_le (xc_ (tosL toks (size : Int)))
  have h2 : (xc_ (tosL toks (size : Int))).length = (tosL toks (size : Int)).length := List.length_mergeSort _
  have h3 := ll_ toks (size : Int)
  have h4 : (fd_ (tosL toks (size : Int))).length = (Lib.compact (xc_ (tosL toks (size : Int)))).length := rfl
  omega
 obtain ⟨F, hF⟩ : ∃ F, F = fd_ (qc_ toks (size : Int)) := ⟨_, rfl⟩
 obtain ⟨T, hTT⟩ : ∃ T, T = fd_ (tosL toks (size : Int)) := ⟨_, rfl⟩
 rw [← hF] at HT0 hF0 hFl
 rw [← hTT] at HT0 hT0 hTl
 rw [← hF, ← hTT]
 have HF := Aside0.mk hF
 have HTL := Aside0.mk hTT
 have HF0 := Aside0.mk hF0
 have HT00 := Aside0.mk hT0
 clear hT hB HP1 HO hF hTT hF0 hT0
 obtain ⟨FN, hFN⟩ : ∃ FN : List Nat, FN = F.map Int.toNat := ⟨_, rfl⟩
 obtain ⟨TN, hTN⟩ : ∃ TN : List Nat, TN = T.map Int.toNat := ⟨_, rfl⟩
 have HFN := Aside0.mk hFN
 have HTN := Aside0.mk hTN
 obtain ⟨P0, hP0⟩ : ∃ P0, P0 = tabP w tb A0 c0 Ao co b2 b3 b4 b5 rules ord [(.slice AF F.length cF, F), (.slice AT T.length cT, T)] (tkL toks) most := ⟨_, rfl⟩
 have HTS : Aside0 (∃ im em, Tab P0 W6 (fillK P0 FN TN 0) im em) := ⟨[], [], by rw [hP0]; exact HT0.out⟩
 have HMK : Aside0 (xm_ w g W6 [{ target := .fn (.func 28) #[.pointer (some ⟨g, 0, none⟩)], args := #[] }]) := ⟨[], rfl, List.nodup_nil, fun D hD => by simp at hD⟩
 have HP0 := Aside0.mk hP0
 clear HT0 hFN hTN hP0
 go_wp2
 refine wp_loop_ghost_k (fun gg a' w' => ∃ (u14 u16 u72 u73 u74 u75 u76 u77 u78 u79 u80 u81 u82 u83 u84 u85 u86 u87 : Value) (ds : List Deferred), (∃ j : Nat, j ≤ T.length ∧ T.length - j ≤ gg ∧ u72 = .int .i64 (j : Int) ∧ Aside0 (∃ im em, Tab P0 w' (fillK P0 FN TN j) im em) ∧ Aside0 (w'.heap[g]? = some (.cells #[.pointer (some ⟨tb, 0, none⟩)] 59 (0, 0))) ∧ Aside0 (xm_ w g w' ds)) ∧ a' = { tmps := #[.slice A0 rules.length c0, .slice A1 toks.length c1, .int .i64 (size : Int), .int .i64 (most : Int), undef, undef, undef, undef, .pointer (some ⟨g, 0, none⟩), undef, u10, .slice AF F.length cF, .slice AT T.length cT, undef, u14, undef, u16, .int .i64 (most : Int), .map (some b2), .map (some b3), .map (some b4), .map (some b5), .agg #[.slice none 0 0, .slice none 0 0, .map (some b2), .map (some b3), .map (some b4), .map (some b5), .int .i64 (most : Int)], .pointer (some ⟨tb, 0, none⟩), .func (.func 28) #[] #[.pointer (some ⟨g, 0, none⟩)], .slice A0 rules.length c0, .bool true, .bool false, undef, undef, undef, undef, .pointer (some ⟨tb, 0, none⟩), .pointer (some ⟨tb, 0, none⟩), .slice A0 rules.length c0, .slice A0 rules.length c0, .slice Au (cc_ rules).length cu, .slice Ao ord.length co, .pointer (some ⟨tb, 0, none⟩), .pointer (some ⟨tb, 0, none⟩), .pointer (some ⟨tb, 0, none⟩), .pointer (some ⟨tb, 1, none⟩), .slice A1 toks.length c1, .int .i64 (toks.length : Int), .int .i64 (kk : Int), .bool false, u46, u47, u48, u49, u50, u51, u52, u53, u54, u55, u56, u57, u58, u59, u60, u61, u62, u63, .tuple #[.slice AF F.length cF, .slice AT T.length cT], .slice A1 toks.length c1, .int .i64 (size : Int), .tuple #[.slice AF F.length cF, .slice AT T.length cT], .slice AF F.length cF, .slice AT T.length cT, .slice AT T.length cT, .int .i64 (T.length : Int), u72, u73, u74, u75, u76, u77, u78, u79, u80, u81, u82, u83, u84, u85, u86, u87, undef], defers := ds }) T.length ?_ ?_
 ·(repeat apply Exists.intro)
  refine ⟨?_, rfl⟩
  exact ⟨0, Nat.zero_le _, by omega, rfl, HTS, HRES, HMK⟩
 clear HTS HRES HMK
 rintro gk _ wr ⟨u14, u16, u72, u73, u74, u75, u76, u77, u78, u79, u80, u81, u82, u83, u84, u85, u86, u87, ds, ⟨j, hj, hgg, rfl, HT, HRS, HMK⟩, rfl⟩ _ _ _ _
 by_cases hjl : j < T.length
 ·have hjlz : (j : Int) < (T.length : Int) := by omega
  obtain ⟨im1, em1, hT1⟩ := HT.out
  have hmT : (Value.slice AT T.length cT, T) ∈ P0.bs := by
   rw [HP0.out]
   exact List.mem_cons_of_mem _ (List.mem_singleton.2 rfl)
  obtain ⟨ad, hA, hcell⟩ := Kd.at_int (hT1.kept hmT).2.2 (j : Int) (by omega) hjlz
  subst hA
  have hlTN : TN.length = T.length := by rw [HTN.out, List.length_map]
  have hjT : j < TN.length := by omega
  have e1 : TN[j] = (T[j]).toNat := by
   have h := HTN.out
   subst h
   rw [List.getElem_map]
  have hT0j := HT00.out _ (List.getElem_mem hjl)
  have hrd : rd T (j : Int) = ((TN[j] : Nat) : Int) := by
   show T.getD (j : Int).toNat 0 = _
   rw [Int.toNat_natCast, List.getD_eq_getElem?_getD, List.getElem?_eq_getElem hjl, e1]
   show T[j] = _
   omega
  have htt : TN[j] ≤ 1000000 := by omega
  rw [hrd, Int.toNat_natCast] at hcell
  have hsn := km_ P0 FN TN j hjT
  generalize TN[j] = tt at *
  have HSN := Aside0.mk hsn
  have HT2 := Aside0.mk (hT1.rebox (tt : Int))
  have HRS2 := Aside0.mk (va_ (o' := .cells #[.int .i64 (tt : Int)] 3) HRS.out)
  have HMK2 : Aside0 (xm_ w g (wr.alloc (.cells #[.int .i64 (tt : Int)] 3)) ds) := ⟨by
   obtain ⟨Ds, h1, h2, h3⟩ := HMK.out
   exact ⟨Ds, h1, h2, fun D hD => ⟨va_ (h3 D hD).1, (h3 D hD).2⟩⟩⟩
  clear hT1 hmT hrd hsn HT HRS HMK e1 hT0j
  go_wp2_with fail
  generalize wr.alloc (.cells #[.int .i64 (tt : Int)] 3) = W7 at *
  generalize wr.heap.size = bx at *
  refine (lw_ AF F.length cF W7).mono ?_
  rintro e W8 ⟨rfl, rfl⟩
  go_wp2_with fail
  have hmF : (Value.slice AF F.length cF, F) ∈ (P0.box bx (tt : Int)).bs := by
   rw [HP0.out]
   exact List.mem_cons_of_mem _ List.mem_cons_self
  have hb8 : P0.base ≤ (W7.alloc (.cells #[.slice AF F.length cF] 23)).heap.size := by
   have := HT2.out.below.size
   simp only [World.size_alloc]
   exact Nat.le_succ_of_le this
  have HBK := Aside0.mk (pb_ W7 (.cells #[.slice AF F.length cF] 23))
  have HRS8 := Aside0.mk (va_ (o' := .cells #[.slice AF F.length cF] 23) HRS2.out)
  have HMK8 : Aside0 (xm_ w g (W7.alloc (.cells #[.slice AF F.length cF] 23)) ds) := ⟨by
   obtain ⟨Ds, h1, h2, h3⟩ := HMK2.out
   exact ⟨Ds, h1, h2, fun D hD => ⟨va_ (h3 D hD).1, (h3 D hD).2⟩⟩⟩
  have hlFN : FN.length = F.length := by rw [HFN.out, List.length_map]
  have HI0 : Aside0 (RoundI P0 bx tt (fillK P0 FN TN j) FN (W7.alloc (.cells #[.slice AF F.length cF] 23)) F.length (W7.alloc (.cells #[.slice AF F.length cF] 23))) := ⟨by
   obtain ⟨im2, em2, hT2⟩ : ∃ im em, Tab (P0.box bx (tt : Int)) W7 (fillK P0 FN TN j) im em := ⟨_, _, HT2.out⟩
   refine ⟨im2, em2, ?_, Calm.refl _⟩
   rw [← hlFN, rowK_len]
   exact hT2.belowW (ba_ (Below.refl _ _) _)⟩
  have HMF := Aside0.mk hmF
  have HOKP := Aside0.mk HT2.out.ok
  have HEOK : Aside0 (∀ k, EndsOk (rowK P0 (fillK P0 FN TN j) tt FN k)) := ⟨fun k => (EndsOk.fillK HOKP.out.unbox.most1 FN TN (fun t ht => by
   have h := HTN.out
   subst h
   obtain ⟨x, hx, rfl⟩ := List.mem_map.1 ht
   have := HT00.out x hx
   omega) j (by omega)).rowK HOKP.out.unbox.most1 tt htt FN k⟩
  clear HT2 HRS2 HMK2 hmF
  have hsz8 : W7.heap.size < (W7.alloc (.cells #[.slice AF F.length cF] 23)).heap.size := by simp
  obtain ⟨W8, hW8⟩ : ∃ W8, W7.alloc (.cells #[.slice AF F.length cF] 23) = W8 := ⟨_, rfl⟩
  rw [hW8] at HBK HRS8 HMK8 HI0 hb8 hsz8 ⊢
  generalize W7.heap.size = gs at *
  refine wpIn_wide.1 (ts_ (gs := gs) rfl rfl AF cF F hFl (RoundI P0 bx tt (fillK P0 FN TN j) FN W8) ?rb ?rp ?ra ?rr HI0.out ?rd)
  case rb =>
   rintro k W ⟨im, em, hT, hC⟩
   exact ⟨ca_ (hC.blk HBK.out (by decide)) 0, (hT.kept HMF.out).2.2⟩
  case rp => exact fun k W D o o' h h1 h2 h3 h4 => h.put o' hb8 h1 h2 h3 h4
  case ra => exact fun k W o h => h.alloc o
  case rr =>
   intro l k W hI hk
   gi_wp2
   refine ⟨trivial, fun W2 hI2 => ?_⟩
   obtain ⟨im2, em2, hT2, hC2⟩ := hI2
   have hkN : k < FN.length := by omega
   have e1 : FN[k] = (F[k]).toNat := by
    have h := HFN.out
    subst h
    rw [List.getElem_map]
   have hF0k := HF0.out _ (List.getElem_mem hk)
   have hrd : rd F (k : Int) = ((FN[k] : Nat) : Int) := by
    show F.getD (k : Int).toNat 0 = _
    rw [Int.toNat_natCast, List.getD_eq_getElem?_getD, List.getElem?_eq_getElem hk, e1]
    show F[k] = _
    omega
   have hff : FN[k] ≤ 1000000 := by omega
   have hst := mv_ P0 (fillK P0 FN TN j) tt FN k hkN
   rw [hrd]
   generalize FN[k] = ff at *
   have c0 : W2.cell? ⟨bx, 0, none⟩ = some (.int .i64 (tt : Int)) := hT2.boxed
   have c1 : W2.cell? ⟨g, 0, none⟩ = some (.pointer (some ⟨tb, 0, none⟩)) := ca_ (hC2.blk HRS8.out (by decide)) 0
   have HT2 := Aside0.mk hT2
   have HC2 := Aside0.mk hC2
   clear hT2 hC2 e1 hF0k hrd
   by_cases hlt : ff < tt
   ·have hltz : decide ((ff : Int) < (tt : Int)) = true := by simp; omega
    have hord : ∀ s ∈ (P0.box bx (tt : Int)).order, ie_ s := by
     rw [HP0.out]
     intro s hs
     have h := HOK.out.1.rng s hs
     rw [ib_] at h
     exact ⟨by omega, by omega⟩
    have hol : (P0.box bx (tt : Int)).order.length ≤ 1000000 := by
     rw [HP0.out]
     have h := HOK.out.2
     rw [ib_] at h
     show ord.length ≤ 1000000
     omega
    have htb : (P0.box bx (tt : Int)).tb = tb := by rw [HP0.out]; rfl
    have hsw := fv_ (P0.box bx (tt : Int)) W2 _ im2 em2 HT2.out (HEOK.out (k + 1)) ff tt hff htt hord hol
    rw [htb] at hsw
    have HSW := Aside0.mk hsw
    clear hsw hord hol htb
    gi_wp2
    refine ⟨trivial, (CallsIn.inRound l (callsIn_wide.2 HSW.out)).mono ?_⟩
    clear HSW
    rintro e W3 ⟨rfl, im3, em3, hT3, hC3⟩
    rw [if_pos hlt] at hst
    have HT3 : Aside0 (RoundI P0 bx tt (fillK P0 FN TN j) FN W8 k W3) := ⟨⟨im3, em3, by rw [hst]; exact hT3, HC2.out.trans hC3⟩⟩
    have HC3 := Aside0.mk hC3
    clear hT3 hC3 hst
    gi_wp2
    exact ⟨HT3.out, HC3.out⟩
   have hltz : decide ((ff : Int) < (tt : Int)) = false := by simp; omega
   rw [if_neg hlt] at hst
   have HT3 : Aside0 (RoundI P0 bx tt (fillK P0 FN TN j) FN W8 k W2) := ⟨⟨im2, em2, by rw [hst]; exact HT2.out, HC2.out⟩⟩
   clear hst
   gi_wp2
   exact ⟨HT3.out, Calm.refl _⟩
  case rd =>
   intro W hI hD
   obtain ⟨im3, em3, hT3, hC3⟩ := hI
   have HT9 : Aside0 (∃ im em, Tab P0 W (fillK P0 FN TN (j + 1)) im em) := ⟨⟨im3, em3, by rw [HSN.out]; exact hT3.unbox⟩⟩
   have HRS9 := Aside0.mk (hC3.blk HRS8.out (by decide))
   have HMK9 : Aside0 (xm_ w g W (mark W8.heap.size :: ds)) := ⟨by
    obtain ⟨Ds, h1, h2, h3⟩ := HMK8.out
    refine ⟨W8.heap.size :: Ds, by rw [h1]; rfl, List.nodup_cons.2 ⟨fun h => ?_, h2⟩, fun D hD' => ?_⟩
    ·have h4 := (Array.getElem?_eq_some_iff.1 (h3 _ h).1).1
     omega
    rcases List.mem_cons.1 hD' with rfl | h
    ·exact ⟨hD, by have := HI0.out; obtain ⟨_, _, hT0, _⟩ := this; rw [HP0.out] at hT0; exact hT0.below.size⟩
    exact ⟨hC3.2 _ _ (h3 D h).1 (fun _ _ e => by cases e) (fun _ _ e => by cases e), (h3 D h).2⟩⟩
   clear hT3 hC3 HRS8 HMK8
   dsimp only
   go_wp2
   go_roundg (T.length - (j + 1))
   case measure => omega
   case rel => exact ⟨j + 1, by omega, by omega, by go_num, HT9, HRS9, HMK9⟩
 have he : j = T.length := by omega
 have hjlz : decide ((j : Int) < (T.length : Int)) = false := by simp; omega
 have r0 : wr.cell? ⟨g, 0, none⟩ = some (.pointer (some ⟨tb, 0, none⟩)) := ca_ HRS.out 0
 have hf0 := fa_ HRS.out 0
 go_wp2
 obtain ⟨Ds, rfl, hDn, hDm⟩ := HMK.out
 obtain ⟨im, em, hT⟩ := HT.out
 obtain ⟨m, hm3, hmv, hmk3⟩ := hT.cells
 have hgt : g ≠ tb := HGE.out.2
 have eb3 : P0.b3 = b3 := by rw [HP0.out]; rfl
 have etb : P0.tb = tb := by rw [HP0.out]; rfl
 have ew : P0.w0 = w := by rw [HP0.out]; rfl
 have ev : P0.vals[3]? = some (.map (some b3)) := by rw [HP0.out]; rfl
 have hbk := hT.blk
 have hbl : Below w.heap.size w wr := by
  have h := hT.below
  rw [TabP.base, ew] at h
  exact h
 rw [eb3] at hm3
 rw [etb] at hbk
 have hfe : FillEnd w (wr.setCell ⟨g, 0, none⟩ (.pointer (some ⟨tb, 0, none⟩))) g tb b3 P0.vals m := ⟨hbl.setCell (p := ⟨g, 0, none⟩) HGE.out.1 _, yg_ HRS.out 0 _, jc_ hbk (fun e => hgt e.symm) _, hm3.setCell _ (hm3.not_cells HRS.out) _⟩
 have hDm' : ∀ D ∈ Ds, (wr.setCell ⟨g, 0, none⟩ (.pointer (some ⟨tb, 0, none⟩))).heap[D]? = some (.deferred (some [])) ∧ w.heap.size ≤ D := fun D hD => ⟨(Below.heap_setCell _ _ _ _ (fun e => by
  have h1 := (hDm D hD).1
  rw [e, HRS.out] at h1
  cases h1)).trans (hDm D hD).1, (hDm D hD).2⟩
 have HFE := Aside0.mk hfe
 have hml : P0.most = most := by rw [HP0.out]; rfl
 have hmath : ∀ s p q, (fillK P0 FN TN j).cells s p q = Chart.cap most (Chart.Num (tokT toks) n (jb_ rules) s p q) := fun s p q => by
  have hj2 : j = TN.length := by rw [HTN.out, List.length_map]; exact he
  rw [hj2, ← hml]
  exact ew_ P0 rules toks size n (by rw [HP0.out]; rfl) (by rw [HP0.out]; rfl) (by rw [hml]; omega) HCH.out (by rw [HP0.out]; exact HOK.out) HTK.out FN TN (by rw [HFN.out, HF.out]) (by rw [HTN.out, HTL.out]) s p q
 have hev : ∀ (s : Int) (p q : Nat), (mget m (s, (p : Int), (q : Int))).getD 0 = if xa_ rules = true then ((Chart.cap most (Chart.Num (tokT toks) n (jb_ rules) s p q) : Nat) : Int) else 0 := fun s p q => by rw [if_pos HCH.out, hmv, hmath]
 have hek : ∀ kv ∈ m, ∃ (s : Int) (p q : Nat), kv.1 = (s, (p : Int), (q : Int)) ∧ xa_ rules = true ∧ Chart.Num (tokT toks) n (jb_ rules) s p q ≠ 0 := fun kv hkv => by
  obtain ⟨s, p, q, h1, h2⟩ := hmk3 kv hkv
  refine ⟨s, p, q, h1, HCH.out, fun h0 => h2 ?_⟩
  rw [hmath, h0]
  simp [Chart.cap]
 refine hj_ (B := w.heap.size) (fun W => FillEnd w W g tb b3 P0.vals m) (fun W D h hB hD => h.put hB hD _) (fun W h => ?_) Ds _ hDn hDm' HFE.out
 have eg : ∀ args w, (callFunc 28 args).run Tryz.prog w = .ok (.enter 28 args) w := enters_of Tryz.func28 (by kernel_rfl) rfl
 refine ⟨by simp, .inr ⟨fun h => absurd h (by decide), .func 28, #[.pointer (some ⟨g, 0, none⟩)], 28, #[.pointer (some ⟨g, 0, none⟩)], rfl, by simp [invoke, go_sem, eg], fun _ _ => trivial, ?_⟩⟩
 refine (fw_ 5 g W).mono ?_
 rintro e u' w' ⟨rfl, rfl, rfl⟩
 have hcr : w'.cell? ⟨g, 0, none⟩ = some (.pointer (some ⟨tb, 0, none⟩)) := ca_ h.res 0
 have hc3 : w'.cell? ⟨tb, 3, none⟩ = some (.map (some b3)) := (ca_ h.blk 3).trans ev
 have hend : sg_ rules toks n most w (.returned (.pointer (some ⟨tb, 0, none⟩))) w' := ⟨tb, b3, m, rfl, hc3, h.m3, h.below, hev, hek⟩
 clear hc3 hev hek hmath h hDm' hDm hfe
 refine ⟨.pointer (some ⟨tb, 0, none⟩), ?_, hend⟩
 simp [results, Tryz.results18, go_sem, hcr]
theorem ko_ (A0 : Option Addr) (c0 : Nat) (rules : List qa_) (A1 : Option Addr) (c1 : Nat) (toks : List Tok') (size n most : Nat) (w : World) (hr0 : Kd.C k48 w A0 rules.length rules) (hc0 : rules.length ≤ c0)
  (hr1 : Kd.C k31 w A1 toks.length toks) (hc1 : toks.length ≤ c1) (hrl : rules.length ≤ 1000000) (htl : toks.length ≤ 1000) (hm1 : 1 ≤ most) (hm2 : most ≤ 1000000000) (hn : n ≤ 1000000) (hsz : size ≤ 1000000)
  (htk : ∀ x ∈ toks, (0 ≤ x.f0 ∧ x.f0 < x.f1 ∧ x.f1 ≤ (n : Int) ∧ x.f1 ≤ (size : Int)) ∧ (-1000000 ≤ x.f2 ∧ x.f2 ≤ 1000000)) :
  Calls Tryz.prog 18 #[.slice A0 rules.length c0, .slice A1 toks.length c1, .int .i64 (size : Int), .int .i64 (most : Int)] w fun e w' => sg_ rules toks n most w e w' := by
 by_cases h : xa_ rules = true
 ·exact dw_ A0 c0 rules A1 c1 toks size n most w hr0 hc0 hr1 hc1 hrl htl hm1 hm2 hn hsz h htk
 exact it_ A0 c0 rules A1 c1 toks size n most w hr0 hc0 hr1 hc1 hrl htl hm1 hm2 hn hsz (by cases hb : xa_ rules <;> simp_all) htk
end Go.Proofs.YtjfbfhoipgldgaaGreat.P
end
section
namespace Go.Proofs
open Go.Shelf
def Tryz.sortSpanA_ren : Go.Shelf.Ren := ⟨fun | 6 => 19 | 15 => 36 | 14 => 35 | 28 => 68 | 29 => 69 | 20 => 60 | 21 => 61 | 22 => 62 | 23 => 63 | 24 => 64 | 25 => 65 | 26 => 66 | 27 => 67 | 46 => 86 | 47 => 87 | 48 => 88 | 49 => 89 | 50 => 90 | 57 => 105 | n => n, fun | 22 => 33 | 24 => 42 | 25 => 62 | 3 => 3 | 39 => 87 | 0 => 0 | 53 => 118 | 55 => 120 | 4 => 4 | 46 => 111 | 45 => 110 | 50 => 115 | 5 => 5 | 9 => 9 | 66 => 136 | 70 => 140 | 76 => 147 | 77 => 94 | n => n, fun | n => n⟩
theorem Tryz.sortSpanA : Go.Proofs.SlLaysF0.n6 Tryz.prog Tryz.sortSpanA_ren := {
 mixed := by kernel_rfl
 f6 := ⟨Tryz.f19.name, by decide, Tryz.func19.trans (congrArg some (by kernel_rfl))⟩
 f14 := ⟨Tryz.f35.name, by decide, Tryz.func35.trans (congrArg some (by kernel_rfl))⟩
 f15 := Tryz.func36.trans (congrArg some (by kernel_rfl))
 f20 := ⟨Tryz.f60.name, by decide, Tryz.func60.trans (congrArg some (by kernel_rfl))⟩
 f21 := ⟨Tryz.f61.name, by decide, Tryz.func61.trans (congrArg some (by kernel_rfl))⟩
 f22 := ⟨Tryz.f62.name, by decide, Tryz.func62.trans (congrArg some (by kernel_rfl))⟩
 f23 := ⟨Tryz.f63.name, by decide, Tryz.func63.trans (congrArg some (by kernel_rfl))⟩
 f24 := ⟨Tryz.f64.name, by decide, Tryz.func64.trans (congrArg some (by kernel_rfl))⟩
 f25 := ⟨Tryz.f65.name, by decide, Tryz.func65.trans (congrArg some (by kernel_rfl))⟩
 f26 := ⟨Tryz.f66.name, by decide, Tryz.func66.trans (congrArg some (by kernel_rfl))⟩
 f27 := ⟨Tryz.f67.name, by decide, Tryz.func67.trans (congrArg some (by kernel_rfl))⟩
 f28 := Tryz.func68.trans (congrArg some (by kernel_rfl))
 f29 := Tryz.func69.trans (congrArg some (by kernel_rfl))
 f46 := ⟨Tryz.f86.name, by decide, Tryz.func86.trans (congrArg some (by kernel_rfl))⟩
 f47 := Tryz.func87.trans (congrArg some (by kernel_rfl))
 f48 := Tryz.func88.trans (congrArg some (by kernel_rfl))
 f49 := ⟨Tryz.f89.name, by decide, Tryz.func89.trans (congrArg some (by kernel_rfl))⟩
 f50 := ⟨Tryz.f90.name, by decide, Tryz.func90.trans (congrArg some (by kernel_rfl))⟩
 f57 := ⟨Tryz.f105.name, by decide, Tryz.func105.trans (congrArg some (by kernel_rfl))⟩
 t0 := Tryz.underlying0
 a0 := Tryz.isAgg0
 z0 := Tryz.sizeOf0
 v0 := Tryz.zeroValue0
 t3 := Tryz.underlying3
 a3 := Tryz.isAgg3
 z3 := Tryz.sizeOf3
 v3 := Tryz.zeroValue3
 t4 := Tryz.underlying4
 a4 := Tryz.isAgg4
 z4 := Tryz.sizeOf4
 v4 := Tryz.zeroValue4
 t5 := Tryz.underlying5
 a5 := Tryz.isAgg5
 z5 := Tryz.sizeOf5
 v5 := Tryz.zeroValue5
 t9 := Tryz.underlying9
 a9 := Tryz.isAgg9
 z9 := Tryz.sizeOf9
 v9 := Tryz.zeroValue9
 t22 := Tryz.underlying33
 a22 := Tryz.isAgg33
 z22 := Tryz.sizeOf33
 v22 := Tryz.zeroValue33
 t25 := Tryz.underlying62
 a25 := Tryz.isAgg62
 z25 := Tryz.sizeOf62
 v25 := Tryz.zeroValue62
 t39 := Tryz.underlying87
 a39 := Tryz.isAgg87
 z39 := Tryz.sizeOf87
 v39 := Tryz.zeroValue87
 t45 := Tryz.underlying110
 a45 := Tryz.isAgg110
 z45 := Tryz.sizeOf110
 v45 := Tryz.zeroValue110
 t46 := Tryz.underlying111
 a46 := Tryz.isAgg111
 z46 := Tryz.sizeOf111
 v46 := Tryz.zeroValue111
 t50 := Tryz.underlying115
 a50 := Tryz.isAgg115
 z50 := Tryz.sizeOf115
 v50 := Tryz.zeroValue115
 t53 := Tryz.underlying118
 a53 := Tryz.isAgg118
 z53 := Tryz.sizeOf118
 v53 := Tryz.zeroValue118
 t55 := Tryz.underlying120
 a55 := Tryz.isAgg120
 z55 := Tryz.sizeOf120
 v55 := Tryz.zeroValue120
 t66 := Tryz.underlying136
 a66 := Tryz.isAgg136
 z66 := Tryz.sizeOf136
 v66 := Tryz.zeroValue136
 t70 := Tryz.underlying140
 a70 := Tryz.isAgg140
 z70 := Tryz.sizeOf140
 v70 := Tryz.zeroValue140
 t76 := Tryz.underlying147
 a76 := Tryz.isAgg147
 z76 := Tryz.sizeOf147
 v76 := Tryz.zeroValue147
 t77 := Tryz.underlying94
 a77 := Tryz.isAgg94
 z77 := Tryz.sizeOf94
 v77 := Tryz.zeroValue94 }
end Go.Proofs
end
section
namespace Go.Proofs.YtjfbfhoipgldgaaGreat.P
open Go.RowKit Go.Proofs.YtjfbfhoipgldgaaGreatW.PrintWords Go.Proofs.YtjfbfhoipgldgaaGreatW.PrintLast Go.Proofs.YtjfbfhoipgldgaaGreatW.PrintMore
attribute [local go_sem] ob_ lb_ ub_ tb_ db_ cb_ nb_ kb_   
set_option linter.unusedVariables false
set_option linter.unusedSimpArgs false
attribute [local go_sem] Oper.semAt_some
abbrev Sp := S42
instance : Inhabited Sp := ⟨z42⟩
def cmpI (a b : Int) : Int := if a < b then -1 else if b < a then 1 else 0
def cmpS (x y : Sp) : Int := if cmpI x.f0 y.f0 ≠ 0 then cmpI x.f0 y.f0 else if cmpI x.f1 y.f1 ≠ 0 then cmpI x.f1 y.f1 else cmpI x.f2 y.f2
def ltS (x y : Sp) : Prop := x.f0 < y.f0 ∨ (x.f0 = y.f0 ∧ (x.f1 < y.f1 ∨ (x.f1 = y.f1 ∧ x.f2 < y.f2)))
theorem pp_ (a b : Int) : cmpI a b < 0 ↔ a < b := by
 unfold cmpI
 split
 ·omega
 split <;> omega
theorem bl_ (a b : Int) : cmpI a b ≠ 0 ↔ a ≠ b := by
 unfold cmpI
 split
 ·omega
 split <;> omega
theorem cmpS_lt (x y : Sp) : cmpS x y < 0 ↔ ltS x y := by
 unfold cmpS ltS
 split
 ·rename_i h
  rw [bl_] at h
  rw [pp_]
  omega
 rename_i h
 rw [Decidable.not_not] at h
 have h0 : x.f0 = y.f0 := Decidable.byContradiction fun e => (bl_ _ _).2 e h
 split
 ·rename_i h1
  rw [bl_] at h1
  rw [pp_]
  omega
 rename_i h1
 rw [Decidable.not_not] at h1
 have h10 : x.f1 = y.f1 := Decidable.byContradiction fun e => (bl_ _ _).2 e h1
 rw [pp_]
 omega
theorem wh_ (x y : Sp) : ltOf cmpS x y = true ↔ ltS x y := by
 unfold ltOf
 rw [decide_eq_true_iff]
 exact cmpS_lt x y
theorem ge_ (x y : Sp) : ltOf cmpS x y = false ↔ ¬ ltS x y := by
 rw [← wh_]
 cases ltOf cmpS x y <;> simp
theorem ltS_swo : Go.Sort.SWO (ltOf cmpS) where
 irrefl x := by
  rw [ge_]
  unfold ltS
  omega
 trans x y z h1 h2 := by
  rw [wh_] at *
  unfold ltS at *
  omega
 ntrans x y z h1 h2 := by
  rw [ge_] at *
  unfold ltS at *
  omega
theorem fo_ (x y : Sp) (h1 : ltOf cmpS x y = false) (h2 : ltOf cmpS y x = false) : x = y := by
 rw [ge_] at h1 h2
 obtain ⟨a, b, c⟩ := x
 obtain ⟨a', b', c'⟩ := y
 unfold ltS at h1 h2
 simp only at h1 h2
 have : a = a' ∧ b = b' ∧ c = c' := by omega
 obtain ⟨rfl, rfl, rfl⟩ := this
 rfl
def me_ (l : List Sp) : List Sp := l.mergeSort fun x y => !(ltOf cmpS) y x
theorem tl_ (l : List Sp) : (me_ l).Perm l := List.mergeSort_perm _ _
theorem uo_ (l : List Sp) : (me_ l).Pairwise fun x y => ¬ ltS y x := by
 have h := List.pairwise_mergeSort (le := fun x y => !(ltOf cmpS) y x) (fun a b c h1 h2 => by
  simp only [Bool.not_eq_true', ge_] at *
  unfold ltS at *
  omega) (fun a b => by
  cases h1 : ltOf cmpS b a
  ·rfl
  cases h2 : ltOf cmpS a b
  ·rfl
  rw [wh_] at h1 h2
  unfold ltS at h1 h2
  omega) l
 exact h.imp fun {x y} h1 => by simpa [ge_] using h1
theorem cm_ (x : Sp) : ¬ ltS x x := by unfold ltS; omega
theorem gp_ {x y : Sp} (h1 : ltS x y) : ¬ ltS y x := by unfold ltS at *; omega
theorem ei_ : ∀ (l1 l2 : List Sp), l1.Pairwise ltS → l2.Pairwise ltS → (∀ x, x ∈ l1 ↔ x ∈ l2) → l1 = l2
 | [], [], _, _, _ => rfl
 | [], y :: l2, _, _, h => by have := (h y).2 List.mem_cons_self; simp at this
 | x :: l1, [], _, _, h => by have := (h x).1 List.mem_cons_self; simp at this
 | x :: l1, y :: l2, h1, h2, h => by
  rw [List.pairwise_cons] at h1 h2
  have e : x = y := by
   rcases List.mem_cons.1 ((h x).1 List.mem_cons_self) with hx | hx
   ·exact hx
   rcases List.mem_cons.1 ((h y).2 List.mem_cons_self) with hy | hy
   ·exact hy.symm
   exact absurd (h2.1 x hx) (gp_ (h1.1 y hy))
  subst e
  refine congrArg (x :: ·) (ei_ l1 l2 h1.2 h2.2 fun z => ⟨fun hz => ?_, fun hz => ?_⟩)
  ·rcases List.mem_cons.1 ((h z).1 (List.mem_cons_of_mem _ hz)) with e | e
   ·subst e
    exact absurd (h1.1 z hz) (cm_ z)
   exact e
  rcases List.mem_cons.1 ((h z).2 (List.mem_cons_of_mem _ hz)) with e | e
  ·subst e
   exact absurd (h2.1 z hz) (cm_ z)
  exact e
theorem vo_ (l : List Sp) (hn : l.Nodup) : (me_ l).Pairwise ltS := by
 have h1 := uo_ l
 have h2 : (me_ l).Pairwise (· ≠ ·) := (tl_ l).nodup_iff.2 hn
 refine (h1.and h2).imp fun {x y} h => ?_
 have h3 : ltOf cmpS y x = false := (ge_ y x).2 h.1
 cases h4 : ltOf cmpS x y
 ·exact absurd (fo_ x y h4 h3) h.2
 exact (wh_ x y).1 h4
def Grew (w W : World) : Prop := ∃ q os, W = Go.Sort.grow (w.drewN q) os
theorem Grew.refl (w : World) : Grew w w := ⟨0, #[], by rw [Go.Sort.grow_empty]; rfl⟩
theorem Grew.alloc {w W : World} (h : Grew w W) (o : Obj) : Grew w (W.alloc o) := by
 obtain ⟨q, os, rfl⟩ := h
 exact ⟨q, os ++ #[o], by rw [Go.Sort.alloc_eq_grow, Go.Sort.grow_grow]⟩
theorem Grew.drewN {w W : World} (h : Grew w W) (n : Nat) : Grew w (W.drewN n) := by
 obtain ⟨q, os, rfl⟩ := h
 exact ⟨q + n, os, by rw [← World.drewN_drewN]; rfl⟩
theorem kt_ (x y : Sp) : slices_Compare_int_int.f 4 [x.f0, x.f1, x.f2] [y.f0, y.f1, y.f2] = some (cmpS x y) := by
 have e1 : wrap64 1 = 1 := by unfold wrap64; omega
 have e2 : wrap64 2 = 2 := by unfold wrap64; omega
 have e3 : wrap64 3 = 3 := by unfold wrap64; omega
 have hc : ∀ a b, cmp_Compare_int.f a b = some (cmpI a b) := by
  intro a b
  unfold cmp_Compare_int.f cmp_isNaN_int.f cmpI
  simp
  split
  ·rfl
  split <;> rfl
 have r0 : ∀ a b c : Int, rd [a, b, c] 0 = a := fun _ _ _ => rfl
 have r1 : ∀ a b c : Int, rd [a, b, c] 1 = b := fun _ _ _ => rfl
 have r2 : ∀ a b c : Int, rd [a, b, c] 2 = c := fun _ _ _ => rfl
 unfold slices_Compare_int_int.f cmpS
 simp [slices_Compare_int_int.l0, hc, e1, e2, e3, r0, r1, r2]
 by_cases h0 : cmpI x.f0 y.f0 = 0
 ·simp [h0, e1, e2, e3]
  by_cases h1 : cmpI x.f1 y.f1 = 0
  ·by_cases h2 : cmpI x.f2 y.f2 = 0 <;> simp [h1, h2, e1, e2, e3]
  simp [h1, e1, e2, e3]
 simp [h0]
set_option maxHeartbeats 4000000 in
set_option maxRecDepth 100000 in
theorem op_ (x y : Sp) (w : World) :
  Calls Tryz.prog 20 #[.agg #[.int .i64 x.f0, .int .i64 x.f1, .int .i64 x.f2], .agg #[.int .i64 y.f0, .int .i64 y.f1, .int .i64 y.f2]] w fun e w' => e = .returned (.int .i64 (cmpS x y)) ∧ Grew w w' := by
 have hcmp := kt_ x y
 generalize cmpS x y = r at hcmp ⊢
 generalize x.f0 = a0, x.f1 = a1, x.f2 = a2, y.f0 = b0, y.f1 = b1, y.f2 = b2 at *
 have H := Aside0.mk hcmp
 clear hcmp
 go_enter Tryz.func20, Tryz.ntmps20
 go_wp2_with fail
 have hg := (((((Grew.refl w).alloc (.cells #[.int .i64 a0, .int .i64 a1, .int .i64 a2] 42)).alloc (.cells #[.int .i64 b0, .int .i64 b1, .int .i64 b2] 42)).alloc (.cells #[.int .i64 a0, .int .i64 a1, .int .i64 a2] 3)).alloc (.cells #[.int .i64 b0, .int .i64 b1, .int .i64 b2] 3))
 have k3 : ∀ {W : World} {n : Nat} {a b c : Int}, W.heap[n]? = some (.cells #[.int .i64 a, .int .i64 b, .int .i64 c] 3 (0, 0)) → Kd.C (Kd.int .i64) W (some ⟨n, 0, none⟩) [a, b, c].length [a, b, c] := fun {W n a b c} h =>
  nc_ (d := Kd.int .i64) (xs := [a, b, c]) (cs := [.int .i64 a, .int .i64 b, .int .i64 c]) h (by simp) (Reps.one (show Kd.M (Kd.int .i64) W 0 (fun _ => True) a [.int .i64 a] from rfl) (Reps.one (show Kd.M (Kd.int .i64) W 0 (fun _ => True) b [.int .i64 b] from rfl) (Reps.one (show Kd.M (Kd.int .i64) W 0 (fun _ => True) c [.int .i64 c] from rfl) (Reps.none _ _))))
 have q0 := k3 (va_ (o' := .cells #[.int .i64 b0, .int .i64 b1, .int .i64 b2] 3) (kc_ (w := (w.alloc (.cells #[.int .i64 a0, .int .i64 a1, .int .i64 a2] 42)).alloc (.cells #[.int .i64 b0, .int .i64 b1, .int .i64 b2] 42)) (cs := #[.int .i64 a0, .int .i64 a1, .int .i64 a2]) (t := 3) (n := w.heap.size + 1 + 1) (by simp)))
 have q1 := k3 (kc_ (w := ((w.alloc (.cells #[.int .i64 a0, .int .i64 a1, .int .i64 a2] 42)).alloc (.cells #[.int .i64 b0, .int .i64 b1, .int .i64 b2] 42)).alloc (.cells #[.int .i64 a0, .int .i64 a1, .int .i64 a2] 3)) (cs := #[.int .i64 b0, .int .i64 b1, .int .i64 b2]) (t := 3) (n := w.heap.size + 1 + 1 + 1) (by simp))
 refine (slices_Compare_int_int.calls 4 _ 3 [a0, a1, a2] _ 3 [b0, b1, b2] r _ q0 (by simp) q1 (by simp) H.out).mono ?_
 rintro e w' ⟨rfl, nd, rfl⟩
 have HG := Aside0.mk (hg.drewN nd)
 clear hg q0 q1 k3
 go_wp2
 go_ret
 exact ⟨rfl, HG.out⟩
def encS (x : Sp) : List Value := [.int .i64 x.f0, .int .i64 x.f1, .int .i64 x.f2]
theorem or_ (l : List Sp) (j : Nat) (hj : j < l.length) (i : Nat) (hi : i < 3) : (Go.Sort.flatK encS 3 l.toArray).toList[j * 3 + i]? = (encS l[j])[i]? := by
 have h1 : j * 3 + i < l.length * 3 := by omega
 have h2 : (j * 3 + i) / 3 = j := by omega
 have h3 : (j * 3 + i) % 3 = i := by omega
 have hl : i < (encS l[j]).length := hi
 rw [List.getElem?_eq_getElem hl, Array.getElem?_toList]
 unfold Go.Sort.flatK
 simp [h1, h2, h3, hj]
 rw [List.getElem?_eq_getElem hl]
 rfl
theorem bw_ (l : List Sp) (j : Nat) (hj : j < l.length) : ((Go.Sort.flatK encS 3 l.toArray).toList.drop (j * 3)).take 3 = encS l[j] := by
 apply List.ext_getElem?
 intro i
 rw [List.getElem?_take, List.getElem?_drop]
 by_cases hi : i < 3
 ·rw [if_pos hi, or_ l j hj i hi]
 rw [if_neg hi, List.getElem?_eq_none (by show 3 ≤ i; omega)]
theorem mp_ {w : World} {g n : Nat} {os : Array Obj} {cur : Array Value} {e : TypeId} {fr : Nat × Nat} (d : Array Value) (hb : w.heap[g]? = some (.cells cur e fr)) :
  (Go.Sort.grow (Go.Sort.putRow id (Go.Sort.ahead w n) g 0 d) os).heap[g]? = some (.cells (Go.Sort.putCells id 0 d cur) e fr) := by
 have hg : g < w.heap.size := (Array.getElem?_eq_some_iff.1 hb).1
 rw [Go.Sort.heap_grow_old _ _ (by simpa using hg)]
 simp [Go.Sort.putRow, Go.Sort.mapBlock, Go.Sort.ahead, Array.getElem?_modify, hb, Go.Sort.onCells]
theorem al_ {w : World} {g n : Nat} {os : Array Obj} (d : Array Value) : w.grownBy (Go.Sort.grow (Go.Sort.putRow id (Go.Sort.ahead w n) g 0 d) os) (some g) := by
 refine ⟨rfl, rfl, rfl, by simp, fun k hk hne => ?_⟩
 rw [Go.Sort.heap_grow_old _ _ (by simpa using hk)]
 have : g ≠ k := fun e => hne (by rw [e])
 simp [Go.Sort.putRow, Go.Sort.mapBlock, Go.Sort.ahead, Array.getElem?_modify, this]
theorem ql_ (cur : Array Value) (d : Array Value) (h : d.size ≤ cur.size) : (Go.Sort.putCells id 0 d cur).toList.take d.size = d.toList := by
 apply List.ext_getElem?
 intro j
 by_cases hj : j < d.size
 ·rw [List.getElem?_take_of_lt hj, Array.getElem?_toList]
  simp [Go.Sort.putCells, hj, show j < cur.size by omega]
 rw [List.getElem?_take_eq_none (by omega), List.getElem?_eq_none (by simp; omega)]
set_option maxHeartbeats 1000000 in
theorem js_ (W : World) (base : Nat) (ok : Nat → Prop) (A : Option Addr) (n c : Nat) (l : List Sp) (h : Kd.R k42 42 W base ok (.slice A n c) l) (hlen : l.length ≤ 1000000000) :
  Calls Tryz.prog 19 #[.slice A n c, .func (.func 20) #[] #[]] W fun e w' => e = .returned (.tuple #[]) ∧ Kd.R k42 42 w' base ok (.slice A n c) (me_ l) ∧ W.grownBy w' (Value.slice A n c).ownBlock := by
 have hn : n = l.length := (Kd.R_reads' h).1
 subst hn
 obtain ⟨hok, inner, ho, hr⟩ := h
 rcases ho.2 with ⟨e, h0⟩ | ⟨g, cap, cur, e, hg, hh, h5, h6, h7, h8⟩
 ·injection e with e1 e2 e3
  subst e1
  have hl : l = [] := List.eq_nil_of_length_eq_zero h0
  subst hl
  refine (AnyF.slices_SortFunc_none Tryz.sortSpanA none c (.func (.func 20) #[] #[]) W).mono ?_
  rintro e w' ⟨rfl, rfl⟩
  have e0 : me_ [] = [] := by simp [me_]
  exact ⟨rfl, by rw [e0]; exact ⟨hok, inner, ho, hr⟩, ⟨rfl, rfl, rfl, Nat.le_refl _, fun _ _ _ => rfl⟩⟩
 injection e with e1 _ e3
 subst e1
 subst e3
 replace h7 : cur.size = c * 3 := h7
 replace h8 : cur.toList.take (l.length * 3) = inner := h8
 have hcell : ∀ t, t < l.length * 3 → cur[t]? = (Go.Sort.flatK encS 3 l.toArray)[t]? := by
  intro t ht
  have hj : t / 3 < l.length := by omega
  have h9 := hr.2 (t / 3) _ (List.getElem?_eq_getElem hj)
  have h10 := zv_ h9
  have h11 := or_ l (t / 3) hj (t % 3) (by omega)
  have h12 : ((inner.drop (t / 3 * 3)).take 3)[t % 3]? = (encS l[t / 3])[t % 3]? := by
   have h13 : (inner.drop (t / 3 * 3)).take 3 = encS l[t / 3] := h10
   rw [h13]
  have e4 : t / 3 * 3 + t % 3 = t := by omega
  rw [e4, Array.getElem?_toList] at h11
  rw [List.getElem?_take, if_pos (by omega), List.getElem?_drop, e4, ← h8, List.getElem?_take, if_pos (show t < l.length * 3 from ht), Array.getElem?_toList] at h12
  rw [h11, h12]
 have hH : Go.Sort.HoldsK encS 3 W g 0 l.toArray := by
  intro t ht
  have ht' : t < l.length * 3 := by simpa using ht
  refine ⟨?_, by simp [World.frozen?, hh]⟩
  have h9 := hcell t ht'
  simp only [World.cell?, hh, Nat.zero_add]
  simp only [Option.isSome_none, Bool.false_eq_true, if_false]
  rw [h9]
  have h10 : t < (Go.Sort.flatK encS 3 l.toArray).size := ht
  rw [Array.getElem?_eq_getElem h10, getElem!_pos (Go.Sort.flatK encS 3 l.toArray) t h10]
  rfl
 have hlt : g < W.heap.size := (Array.getElem?_eq_some_iff.1 hh).1
 have eg : ∀ args w, (callFunc 20 args).run Tryz.prog w = .ok (.enter 20 args) w := enters_of Tryz.func20 (by kernel_rfl) rfl
 have hcon := AnyQ.slices_SortFunc_total Tryz.sortSpanA 3 Tryz.isAgg42 Tryz.sizeOf42 encS (fun _ => rfl) (fun x v hv => by simp [encS] at hv; rcases hv with rfl | rfl | rfl <;> rfl) cmpS ltS_swo 20 #[] g 0 c l.toArray W eg (fun _ _ _ _ x y => op_ x y _) hH hlt (by simp; omega) fo_
 refine Calls.mono (show Calls Tryz.prog 19 #[.slice (some ⟨g, 0, none⟩) l.length c, .func (.func 20) #[] #[]] W _ from hcon) ?_
 rintro e w' ⟨rfl, q, os, rfl⟩
 have hsl : (me_ l).length = l.length := List.length_mergeSort _
 have es : (l.toArray.toList.mergeSort fun x y => !(ltOf cmpS) y x) = me_ l := rfl
 rw [es]
 refine ⟨rfl, ?_, al_ _⟩
 refine ⟨hok, (Go.Sort.flatK encS 3 (me_ l).toArray).toList, ⟨by simp; rfl, .inr ⟨g, c, _, by rw [hsl], hg, mp_ _ hh, by omega, h6, by simp [Go.Sort.putCells, h7]; rfl, ?_⟩⟩, by simp; rfl, fun j p hj => ?_⟩
 ·have h9 := ql_ cur (Go.Sort.flatK encS 3 (me_ l).toArray) (by simp; omega)
  have e5 : (Go.Sort.flatK encS 3 (me_ l).toArray).size = (me_ l).length * 3 := by simp
  rw [e5] at h9
  exact h9
 obtain ⟨hj1, hj2⟩ := List.getElem?_eq_some_iff.1 hj
 have h9 := bw_ (me_ l) j hj1
 have h10 : ((Go.Sort.flatK encS 3 (me_ l).toArray).toList.drop (j * 3)).take 3 = encS p := by rw [h9, hj2]
 show k42.M _ _ _ p (((Go.Sort.flatK encS 3 (me_ l).toArray).toList.drop (j * 3)).take 3)
 rw [h10]
 exact kp_ _ _ _ p
theorem sr_ (A0 : Option Addr) (c0 : Nat) (l0 : List Sp) (w : World) (hr0 : Kd.C k42 w A0 l0.length l0) (hc0 : l0.length ≤ c0) (hl : l0.length ≤ 1000000000) :
  Calls Tryz.prog 21 #[.slice A0 l0.length c0] w fun e w' => ∃ v0_ : Value, e = .returned (v0_) ∧ Kd.R k42 42 w' w.heap.size (fun _ => True) v0_ l0 ∧ Below w.heap.size w w' := by
 have q22 : ∀ (w : World) (a : Option Addr) (n c n' c' : Nat), (binOp .eql 33 (.slice a n c) (.slice none n' c')).run Tryz.prog w = .ok (.bool a.isNone) w := fun w a n c n' c' => Lib.run_eql_slice_nil w _ _ a n c n' c' Tryz.underlying33
 have HR := Aside0.mk hr0
 have HL := Aside0.mk hl
 clear hr0 hl
 cases A0 with
 | none =>
  have h0 : l0 = [] := by
   cases l0 with
   | nil => rfl
   | cons x l => obtain ⟨ad, e, _⟩ := HR.out.2.2 (by simp); cases e
  subst h0
  go_enter Tryz.func21, Tryz.ntmps21
  go_wp2
  go_ret
  exact ⟨_, rfl, Kd.R_nil _ _ _ _ _, Below.refl _ _⟩
 | some ad =>
  go_enter Tryz.func21, Tryz.ntmps21
  go_wp2_with (at_builtin; go_loud (refine Kd.R_append_rows k42 (Rr := k42.K (w.alloc (.cells #[] 42))) (w0 := w) (W := w.alloc (.cells #[] 42)) w.heap.size rfl (.tmp 5) (.tmp 6) 33 42 (.agg #[.int .i64 0, .int .i64 0, .int .i64 0]) 24 rfl Tryz.underlying33 info42 rfl (by show 0 < 3; decide) (by decide) (.slice (some ⟨w.heap.size, 0, none⟩) 0 0) ([] : List Sp) l0 (some ad) l0.length c0 (fun _ => True) (fun _ => False) rfl rfl ?hO (Kd.C_alloc HR.out _) (fun x cs h => by have h9 := gm_ h; subst h9; exact kp_ _ _ _ x) (fun _ hk => hk.elim) (fun _ _ => trivial) (ba_ (Below.refl _ _) _) (by simp) (by have := HL.out; simp; omega) ?_); (case hO => exact ⟨fun _ _ => trivial, [], World.ownsRow_made w #[] 0 (Nat.le_refl _) (Nat.zero_le _) rfl, Reps.none _ _⟩); intro v1 w1 ho hb hg hat)
  have ho' : Kd.R k42 42 w1 w.heap.size (fun _ => True) v1 l0 := ho
  have HO := Aside0.mk ho'
  have HB := Aside0.mk hb
  clear ho ho' hb hg hat
  go_wp2
  go_ret
  exact ⟨_, rfl, HO.out, HB.out⟩
end Go.Proofs.YtjfbfhoipgldgaaGreat.P
end
