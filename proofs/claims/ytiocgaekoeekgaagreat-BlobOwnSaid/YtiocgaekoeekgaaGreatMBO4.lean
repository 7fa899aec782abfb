/- What was resolved is its own: written to, it does not change the locales: BlobOwn answers true for all that it is given, with no condition. Part 4: contracts of the functions that the law reaches, and words for them. -/
import Derived.Lib.AppendZeros
import Derived.Laws.AppendOwn
import Derived.Deep.DeepCutAuto
import Derived.WalkSpells
import Derived.Test.YtiocgaekoeekgaaGreatMBO3
set_option maxHeartbeats 32000000
set_option maxRecDepth 100000
section
namespace Go.Proofs.YtiocgaekoeekgaaGreat.P
open Go.RowKit YtiocgaekoeekgaaGreatW.PrintWords YtiocgaekoeekgaaGreatW.PrintLast YtiocgaekoeekgaaGreatW.PrintMore
attribute [local go_sem] vb_ tb_ jc_ ic_ lb_ kb_ ub_ sb_   
set_option linter.unusedVariables false
set_option linter.unusedSimpArgs false
attribute [local go_sem] Oper.semAt_some
theorem KeptR.size {w0 : World} {h : Nat} {A : Option Addr} {b : List Int} {c p : Nat} {W W' : World} (hk : KeptR h W W') (hr : RdAt w0 h A b c p W') : W.heap.size ≤ W'.heap.size := by
 rcases Nat.lt_or_ge W'.heap.size W.heap.size with hlt | hge
 ·exfalso
  by_cases he : W'.heap.size = h
  ·have := za_ hr.blk
   omega
  have := za_ (hk _ _ (Array.getElem?_eq_getElem hlt) he); omega
 exact hge
theorem ue_ {α : Type} {d : Kd α} {e : Nat} {W1 W2 : World} {base h : Nat} {ok : Nat → Prop} {v : Value} {xs : List α} (hr : d.R e W1 base ok v xs) (hk : KeptR h W1 W2) (hn : ∀ k, ok k → k ≠ h) : d.R e W2 base ok v xs :=
 Kd.R_step hr (fun k ho hlt => (hk k _ (Array.getElem?_eq_getElem hlt) (hn k ho)).trans (Array.getElem?_eq_getElem hlt).symm)
def VM {α : Type} (d : Kd α) (w0 W : World) (x : α) (v : Value) (W' : World) : Prop := ∃ cs, v = .agg cs.toArray ∧ d.M W' w0.heap.size (fun k => W.heap.size ≤ k) x cs
def VR {α : Type} (d : Kd α) (e : Nat) (w0 W : World) (xs : List α) (v : Value) (W' : World) : Prop := d.R e W' w0.heap.size (fun k => W.heap.size ≤ k) v xs
theorem KeptR.box {h g : Nat} {W W' : World} (hk : KeptR h W W') (hg : W.heap.size ≤ g) (i : Nat) (v : Value) : KeptR h W (W'.setCell ⟨g, i, none⟩ v) := fun k o hko hne =>
 (heap_setCell_other W' ⟨g, i, none⟩ k v (show k ≠ g by have := za_ hko; omega)).trans (hk k o hko hne)
theorem RdAt.box {w0 : World} {h : Nat} {A : Option Addr} {b : List Int} {c p : Nat} {W' : World} (hr : RdAt w0 h A b c p W') {g : Nat} (hg : h < g) (i : Nat) (v : Value) : RdAt w0 h A b c p (W'.setCell ⟨g, i, none⟩ v) :=
 ⟨(heap_setCell_other W' ⟨g, i, none⟩ h v (show h ≠ g by omega)).trans hr.blk, hr.below.setCell (p := ⟨g, i, none⟩) (Nat.le_trans hr.ge (Nat.le_of_lt hg)) _, hr.ge, hr.pos⟩
def pEnt (b : List Int) (p : Nat) : Option (S46 × Nat) := (pg_ b p).bind fun z0 => (pNum b z0.2).bind fun z1 => (pNum b z1.2).bind fun z2 => some (⟨z0.1, z1.1, z2.1⟩, z2.2)
theorem entry_rd (w0 : World) (h : Nat) (A : Option Addr) (b : List Int) (c p : Nat) (W : World) (hs : Src w0 A b c) (hr : RdAt w0 h A b c p W) :
  Calls Tryz.prog 86 #[.pointer (some ⟨h, 0, none⟩)] W fun e W' => Rd w0 h A b c W (VM k46 w0 W) e W' (pEnt b p) := by
 have HS := aM_ hs
 have HG : Az (h < W.heap.size) := ⟨za_ hr.blk⟩
 have HZ0 : Az (W.heap.size < (W.alloc (.cells #[.string ⟨#[]⟩, .int .i64 0, .int .i64 0] 46)).heap.size) := ⟨by simp⟩
 have HR0 : Az (RdAt w0 h A b c p (W.alloc (.cells #[.string ⟨#[]⟩, .int .i64 0, .int .i64 0] 46))) := ⟨⟨oa_ hr.blk (aa_ (Below.refl _ _) _), fa_ hr.below (aa_ (Below.refl _ _) _), hr.ge, hr.pos⟩⟩
 have HB0 : Az ((W.alloc (.cells #[.string ⟨#[]⟩, .int .i64 0, .int .i64 0] 46)).heap[W.heap.size]? = some (.cells #[.string ⟨#[]⟩, .int .i64 0, .int .i64 0] 46 (0, 0))) := ⟨ra_ W _⟩
 have HK0 : Az (KeptR h W (W.alloc (.cells #[.string ⟨#[]⟩, .int .i64 0, .int .i64 0] 46))) := ⟨KeptR.below (aa_ (Below.refl _ _) _)⟩
 have HP0 : Az (pEnt b p = (pg_ b p).bind fun z0 => (pNum b z0.2).bind fun z1 => (pNum b z1.2).bind fun z2 => some (⟨z0.1, z1.1, z2.1⟩, z2.2)) := ⟨rfl⟩
 have HQ0 := aM_ (ho_ w0 h A b c p _ HS.out HR0.out)
 clear hs hr
 go_enter Tryz.func86, Tryz.ntmps86
 go_wp2_with fail
 refine HQ0.out.mono ?_
 intro e w1 hq
 cases hp : pg_ b p with
 | none =>
  rw [hp] at hq; obtain ⟨⟨T, v, rfl⟩, hbl⟩ := hq
  exact ⟨rfl, by rw [HP0.out, hp]; exact ⟨⟨T, v, rfl⟩, hbl⟩⟩
 | some z =>
  obtain ⟨x0, q0⟩ := z; rw [hp] at hq; obtain ⟨⟨v, rfl, rfl⟩, hr1, hk1⟩ := hq; have HP1 : Az (pEnt b p = (pNum b q0).bind fun z1 => (pNum b z1.2).bind fun z2 => some (⟨x0, z1.1, z2.1⟩, z2.2)) := ⟨by rw [HP0.out, hp]; rfl⟩; have HR1 := aM_ hr1; have HK1 := aM_ (HK0.out.trans hk1); have HZ1 := aM_ (Nat.lt_of_lt_of_le HZ0.out (hk1.size hr1)); have HB1 := aM_ (hk1 _ _ HB0.out (Nat.ne_of_gt HG.out)); have HQ1 := aM_ (kc_ w0 h A b c q0 w1 HS.out HR1.out); clear hr1 hk1 hp HQ0 HR0 HB0 HK0 HP0 HZ0
  go_wp2_with fail
  refine HQ1.out.mono ?_; intro e w2 hq
  cases hp : pNum b q0 with
  | none =>
   rw [hp] at hq; obtain ⟨⟨T, v, rfl⟩, hbl⟩ := hq
   exact ⟨rfl, by rw [HP1.out, hp]; exact ⟨⟨T, v, rfl⟩, hbl⟩⟩
  | some z =>
   obtain ⟨x1, q1⟩ := z; rw [hp] at hq; obtain ⟨⟨v, rfl, rfl⟩, hr1, hk1⟩ := hq; have HP2 : Az (pEnt b p = (pNum b q1).bind fun z2 => some (⟨x0, x1, z2.1⟩, z2.2)) := ⟨by rw [HP1.out, hp]; rfl⟩; have HR2 := aM_ hr1; have HK2 := aM_ (HK1.out.trans hk1); have HZ2 := aM_ (Nat.lt_of_lt_of_le HZ1.out (hk1.size hr1)); have HB2 := aM_ (hk1 _ _ HB1.out (Nat.ne_of_gt HG.out)); have HQ2 := aM_ (kc_ w0 h A b c q1 w2 HS.out HR2.out); clear hr1 hk1 hp HQ1 HR1 HB1 HK1 HP1 HZ1
   go_wp2_with fail
   refine HQ2.out.mono ?_; intro e w3 hq
   cases hp : pNum b q1 with
   | none =>
    rw [hp] at hq; obtain ⟨⟨T, v, rfl⟩, hbl⟩ := hq
    exact ⟨rfl, by rw [HP2.out, hp]; exact ⟨⟨T, v, rfl⟩, hbl⟩⟩
   | some z =>
    obtain ⟨x2, q2⟩ := z; rw [hp] at hq; obtain ⟨⟨v, rfl, rfl⟩, hr1, hk1⟩ := hq; have HP3 : Az (pEnt b p = some (⟨x0, x1, x2⟩, q2)) := ⟨by rw [HP2.out, hp]; rfl⟩; have HR3 := aM_ hr1; have HK3 := aM_ (HK2.out.trans hk1); have HZ3 := aM_ (Nat.lt_of_lt_of_le HZ2.out (hk1.size hr1)); have HB3 := aM_ (hk1 _ _ HB2.out (Nat.ne_of_gt HG.out)); clear hr1 hk1 hp HQ2 HR2 HB2 HK2 HP2 HZ2; have hf_0 := da_ HB3.out 0; have hc_0 := ba_ HB3.out 0; have hf_1 := da_ HB3.out 1; have hc_1 := ba_ HB3.out 1; have hf_2 := da_ HB3.out 2; have hc_2 := ba_ HB3.out 2; have hu1 := Tryz.underlying46
    go_wp2
    have hb1 : (((w3.setCell ⟨W.heap.size, 0, none⟩ (.string x0)).setCell ⟨W.heap.size, 1, none⟩ (.int .i64 x1)).setCell ⟨W.heap.size, 2, none⟩ (.int .i64 x2)).heap[W.heap.size]? = some (.cells #[.string x0, .int .i64 x1, .int .i64 x2] 46 (0, 0)) := by simpa using (sa_ (sa_ (sa_ HB3.out 0 (.string x0)) 1 (.int .i64 x1)) 2 (.int .i64 x2))
    refine bodyPost_ret (results_cell_row rfl _ _ W.heap.size 46 #[.string x0, .int .i64 x1, .int .i64 x2] (0, 0) _ rfl hb1 Tryz.underlying46 rfl (by kernel_rfl)) rfl ?_; rw [HP3.out]; exact ⟨⟨_, rfl, _, rfl, oc_ _ _ _ (⟨x0, x1, x2⟩ : S46) ⟩, (RdAt.box (RdAt.box (RdAt.box HR3.out HG.out _ _) HG.out _ _) HG.out _ _), (KeptR.box (KeptR.box (KeptR.box HK3.out (Nat.le_refl _) _ _) (Nat.le_refl _) _ _) (Nat.le_refl _) _ _)⟩
def zd_ (b : List Int) (p : Nat) : Option (S48 × Nat) := (pNum b p).bind fun z0 => (pg_ b z0.2).bind fun z1 => (pNum b z1.2).bind fun z2 => (pNum b z2.2).bind fun z3 => (pNum b z3.2).bind fun z4 => some (⟨z0.1, z1.1, z2.1, z3.1, z4.1⟩, z4.2)
theorem part_rd (w0 : World) (h : Nat) (A : Option Addr) (b : List Int) (c p : Nat) (W : World) (hs : Src w0 A b c) (hr : RdAt w0 h A b c p W) :
  Calls Tryz.prog 129 #[.pointer (some ⟨h, 0, none⟩)] W fun e W' => Rd w0 h A b c W (VM k48 w0 W) e W' (zd_ b p) := by
 have HS := aM_ hs
 have HG : Az (h < W.heap.size) := ⟨za_ hr.blk⟩
 have HZ0 : Az (W.heap.size < (W.alloc (.cells #[.int .i64 0, .string ⟨#[]⟩, .int .i64 0, .int .i64 0, .int .i64 0] 48)).heap.size) := ⟨by simp⟩
 have HR0 : Az (RdAt w0 h A b c p (W.alloc (.cells #[.int .i64 0, .string ⟨#[]⟩, .int .i64 0, .int .i64 0, .int .i64 0] 48))) := ⟨⟨oa_ hr.blk (aa_ (Below.refl _ _) _), fa_ hr.below (aa_ (Below.refl _ _) _), hr.ge, hr.pos⟩⟩
 have HB0 : Az ((W.alloc (.cells #[.int .i64 0, .string ⟨#[]⟩, .int .i64 0, .int .i64 0, .int .i64 0] 48)).heap[W.heap.size]? = some (.cells #[.int .i64 0, .string ⟨#[]⟩, .int .i64 0, .int .i64 0, .int .i64 0] 48 (0, 0))) := ⟨ra_ W _⟩
 have HK0 : Az (KeptR h W (W.alloc (.cells #[.int .i64 0, .string ⟨#[]⟩, .int .i64 0, .int .i64 0, .int .i64 0] 48))) := ⟨KeptR.below (aa_ (Below.refl _ _) _)⟩
 have HP0 : Az (zd_ b p = (pNum b p).bind fun z0 => (pg_ b z0.2).bind fun z1 => (pNum b z1.2).bind fun z2 => (pNum b z2.2).bind fun z3 => (pNum b z3.2).bind fun z4 => some (⟨z0.1, z1.1, z2.1, z3.1, z4.1⟩, z4.2)) := ⟨rfl⟩
 have HQ0 := aM_ (kc_ w0 h A b c p _ HS.out HR0.out)
 clear hs hr
 go_enter Tryz.func129, Tryz.ntmps129
 go_wp2_with fail
 refine HQ0.out.mono ?_
 intro e w1 hq
 cases hp : pNum b p with
 | none =>
  rw [hp] at hq; obtain ⟨⟨T, v, rfl⟩, hbl⟩ := hq
  exact ⟨rfl, by rw [HP0.out, hp]; exact ⟨⟨T, v, rfl⟩, hbl⟩⟩
 | some z =>
  obtain ⟨x0, q0⟩ := z; rw [hp] at hq; obtain ⟨⟨v, rfl, rfl⟩, hr1, hk1⟩ := hq; have HP1 : Az (zd_ b p = (pg_ b q0).bind fun z1 => (pNum b z1.2).bind fun z2 => (pNum b z2.2).bind fun z3 => (pNum b z3.2).bind fun z4 => some (⟨x0, z1.1, z2.1, z3.1, z4.1⟩, z4.2)) := ⟨by rw [HP0.out, hp]; rfl⟩; have HR1 := aM_ hr1; have HK1 := aM_ (HK0.out.trans hk1); have HZ1 := aM_ (Nat.lt_of_lt_of_le HZ0.out (hk1.size hr1)); have HB1 := aM_ (hk1 _ _ HB0.out (Nat.ne_of_gt HG.out)); have HQ1 := aM_ (ho_ w0 h A b c q0 w1 HS.out HR1.out); clear hr1 hk1 hp HQ0 HR0 HB0 HK0 HP0 HZ0
  go_wp2_with fail
  refine HQ1.out.mono ?_; intro e w2 hq
  cases hp : pg_ b q0 with
  | none =>
   rw [hp] at hq; obtain ⟨⟨T, v, rfl⟩, hbl⟩ := hq
   exact ⟨rfl, by rw [HP1.out, hp]; exact ⟨⟨T, v, rfl⟩, hbl⟩⟩
  | some z =>
   obtain ⟨x1, q1⟩ := z; rw [hp] at hq; obtain ⟨⟨v, rfl, rfl⟩, hr1, hk1⟩ := hq; have HP2 : Az (zd_ b p = (pNum b q1).bind fun z2 => (pNum b z2.2).bind fun z3 => (pNum b z3.2).bind fun z4 => some (⟨x0, x1, z2.1, z3.1, z4.1⟩, z4.2)) := ⟨by rw [HP1.out, hp]; rfl⟩; have HR2 := aM_ hr1; have HK2 := aM_ (HK1.out.trans hk1); have HZ2 := aM_ (Nat.lt_of_lt_of_le HZ1.out (hk1.size hr1)); have HB2 := aM_ (hk1 _ _ HB1.out (Nat.ne_of_gt HG.out)); have HQ2 := aM_ (kc_ w0 h A b c q1 w2 HS.out HR2.out); clear hr1 hk1 hp HQ1 HR1 HB1 HK1 HP1 HZ1
   go_wp2_with fail
   refine HQ2.out.mono ?_; intro e w3 hq
   cases hp : pNum b q1 with
   | none =>
    rw [hp] at hq; obtain ⟨⟨T, v, rfl⟩, hbl⟩ := hq
    exact ⟨rfl, by rw [HP2.out, hp]; exact ⟨⟨T, v, rfl⟩, hbl⟩⟩
   | some z =>
    obtain ⟨x2, q2⟩ := z; rw [hp] at hq; obtain ⟨⟨v, rfl, rfl⟩, hr1, hk1⟩ := hq; have HP3 : Az (zd_ b p = (pNum b q2).bind fun z3 => (pNum b z3.2).bind fun z4 => some (⟨x0, x1, x2, z3.1, z4.1⟩, z4.2)) := ⟨by rw [HP2.out, hp]; rfl⟩; have HR3 := aM_ hr1; have HK3 := aM_ (HK2.out.trans hk1); have HZ3 := aM_ (Nat.lt_of_lt_of_le HZ2.out (hk1.size hr1)); have HB3 := aM_ (hk1 _ _ HB2.out (Nat.ne_of_gt HG.out)); have HQ3 := aM_ (kc_ w0 h A b c q2 w3 HS.out HR3.out); clear hr1 hk1 hp HQ2 HR2 HB2 HK2 HP2 HZ2
    go_wp2_with fail
    refine HQ3.out.mono ?_; intro e w4 hq
    cases hp : pNum b q2 with
    | none =>
     rw [hp] at hq; obtain ⟨⟨T, v, rfl⟩, hbl⟩ := hq
     exact ⟨rfl, by rw [HP3.out, hp]; exact ⟨⟨T, v, rfl⟩, hbl⟩⟩
    | some z =>
     obtain ⟨x3, q3⟩ := z; rw [hp] at hq; obtain ⟨⟨v, rfl, rfl⟩, hr1, hk1⟩ := hq; have HP4 : Az (zd_ b p = (pNum b q3).bind fun z4 => some (⟨x0, x1, x2, x3, z4.1⟩, z4.2)) := ⟨by rw [HP3.out, hp]; rfl⟩; have HR4 := aM_ hr1; have HK4 := aM_ (HK3.out.trans hk1); have HZ4 := aM_ (Nat.lt_of_lt_of_le HZ3.out (hk1.size hr1)); have HB4 := aM_ (hk1 _ _ HB3.out (Nat.ne_of_gt HG.out)); have HQ4 := aM_ (kc_ w0 h A b c q3 w4 HS.out HR4.out); clear hr1 hk1 hp HQ3 HR3 HB3 HK3 HP3 HZ3
     go_wp2_with fail
     refine HQ4.out.mono ?_; intro e w5 hq
     cases hp : pNum b q3 with
     | none =>
      rw [hp] at hq; obtain ⟨⟨T, v, rfl⟩, hbl⟩ := hq
      exact ⟨rfl, by rw [HP4.out, hp]; exact ⟨⟨T, v, rfl⟩, hbl⟩⟩
     | some z =>
      obtain ⟨x4, q4⟩ := z; rw [hp] at hq; obtain ⟨⟨v, rfl, rfl⟩, hr1, hk1⟩ := hq; have HP5 : Az (zd_ b p = some (⟨x0, x1, x2, x3, x4⟩, q4)) := ⟨by rw [HP4.out, hp]; rfl⟩; have HR5 := aM_ hr1; have HK5 := aM_ (HK4.out.trans hk1); have HZ5 := aM_ (Nat.lt_of_lt_of_le HZ4.out (hk1.size hr1)); have HB5 := aM_ (hk1 _ _ HB4.out (Nat.ne_of_gt HG.out)); clear hr1 hk1 hp HQ4 HR4 HB4 HK4 HP4 HZ4; have hf_0 := da_ HB5.out 0; have hc_0 := ba_ HB5.out 0; have hf_1 := da_ HB5.out 1; have hc_1 := ba_ HB5.out 1; have hf_2 := da_ HB5.out 2; have hc_2 := ba_ HB5.out 2; have hf_3 := da_ HB5.out 3; have hc_3 := ba_ HB5.out 3; have hf_4 := da_ HB5.out 4; have hc_4 := ba_ HB5.out 4; have hu1 := Tryz.underlying48
      go_wp2
      have hb1 : (((((w5.setCell ⟨W.heap.size, 0, none⟩ (.int .i64 x0)).setCell ⟨W.heap.size, 1, none⟩ (.string x1)).setCell ⟨W.heap.size, 2, none⟩ (.int .i64 x2)).setCell ⟨W.heap.size, 3, none⟩ (.int .i64 x3)).setCell ⟨W.heap.size, 4, none⟩ (.int .i64 x4)).heap[W.heap.size]? = some (.cells #[.int .i64 x0, .string x1, .int .i64 x2, .int .i64 x3, .int .i64 x4] 48 (0, 0)) := by simpa using (sa_ (sa_ (sa_ (sa_ (sa_ HB5.out 0 (.int .i64 x0)) 1 (.string x1)) 2 (.int .i64 x2)) 3 (.int .i64 x3)) 4 (.int .i64 x4))
      refine bodyPost_ret (results_cell_row rfl _ _ W.heap.size 48 #[.int .i64 x0, .string x1, .int .i64 x2, .int .i64 x3, .int .i64 x4] (0, 0) _ rfl hb1 Tryz.underlying48 rfl (by kernel_rfl)) rfl ?_; rw [HP5.out]; exact ⟨⟨_, rfl, _, rfl, bp_ _ _ _ (⟨x0, x1, x2, x3, x4⟩ : S48) ⟩, (RdAt.box (RdAt.box (RdAt.box (RdAt.box (RdAt.box HR5.out HG.out _ _) HG.out _ _) HG.out _ _) HG.out _ _) HG.out _ _), (KeptR.box (KeptR.box (KeptR.box (KeptR.box (KeptR.box HK5.out (Nat.le_refl _) _ _) (Nat.le_refl _) _ _) (Nat.le_refl _) _ _) (Nat.le_refl _) _ _) (Nat.le_refl _) _ _)⟩
theorem Kd.R_of_own0 {α : Type} {d : Kd α} {e b s : Nat} (w : World) (hb : b ≤ w.heap.size) (hs : s ≤ w.heap.size) : d.R e (w.alloc (.cells #[] e)) b (fun k => s ≤ k) (.slice (some ⟨w.heap.size, 0, none⟩) 0 0) [] :=
 ⟨fun k hk => by simp [Value.ownBlock] at hk; omega, [], ⟨by simp, .inr ⟨w.heap.size, 0, #[], rfl, hb, ra_ w _, Nat.le_refl _, by simp [maxLen], by simp, by simp⟩⟩, Reps.none _ _⟩
theorem cloneI (A0 : Option Addr) (c0 : Nat) (l0 : List Int) (w : World) (s b : Nat) (hr0 : Kd.R (Kd.int .i64) 3 w b (fun k => s ≤ k) (.slice A0 l0.length c0) l0) (hs : s ≤ w.heap.size) (hb : b ≤ w.heap.size) (hl : l0.length * 8 ≤ 140737488355328) :
  Calls Tryz.prog 112 #[.slice A0 l0.length c0] w fun e w' => ∃ v0_ : Value, e = .returned (v0_) ∧ Kd.R (Kd.int .i64) 3 w' b (fun k => s ≤ k) v0_ l0 ∧ Below w.heap.size w w' := by
 have q22 : ∀ (w : World) (a : Option Addr) (n c n' c' : Nat), (binOp .eql 35 (.slice a n c) (.slice none n' c')).run Tryz.prog w = .ok (.bool a.isNone) w := fun w a n c n' c' => Lib.run_eql_slice_nil w _ _ a n c n' c' Tryz.underlying35
 have HR := aM_ hr0
 have HL := aM_ hl
 have HB := aM_ hb
 have HS := aM_ hs
 clear hr0 hl hb hs
 cases A0 with
 | none =>
  have h0 : l0 = [] := by
   cases l0 with
   | nil => rfl
   | cons x l =>
    obtain ⟨A1, c1, e1, _, hc1⟩ := Kd.R_reads HR.out; injection e1 with e1; subst e1; obtain ⟨ad, e, _⟩ := hc1.2.2 (by simp)
    cases e
  subst h0
  go_enter Tryz.func112, Tryz.ntmps112
  go_wp2
  go_ret
  exact ⟨_, rfl, Kd.R_nil _ _ _ _ _, Below.refl _ _⟩
 | some ad =>
  have hrr : Az (ReadsRow (Kd.M (Kd.int .i64) (w.alloc (.cells #[] 3)) b (fun k => s ≤ k ∧ k < w.heap.size)) (Kd.sz (Kd.int .i64)) (w.alloc (.cells #[] 3)) (some ad) l0.length l0) := ⟨by
   obtain ⟨A1, c1, e1, _, hc1⟩ := OwnRow.reads HR.out.2; injection e1 with e1; subst e1
   exact hc1.imp_ (aa_ (Below.refl _ _) _) (fun x cs hm => Kd.M_below (Kd.M_mono _ (fun k hk => ⟨hk.1.1, hk.2.2.1⟩) (Kd.M_bound _ hm)) (aa_ (Below.refl _ _) _))⟩
  go_enter Tryz.func112, Tryz.ntmps112
  go_wp2_with (at_builtin; go_loud (refine Kd.R_append_rows (Kd.int .i64) (w0 := w) b rfl (.tmp 5) (.tmp 6) 35 3 (.int .i64 0) 8 rfl Tryz.underlying35 (by kernel_rfl) rfl (by show 0 < 1; decide) (by decide) (.slice (some ⟨w.heap.size, 0, none⟩) 0 0) [] l0 (some ad) l0.length c0 (fun k => s ≤ k) (fun k => s ≤ k ∧ k < w.heap.size) rfl rfl ?hO hrr.out (fun _ _ h => h) ?hok ?hf ?hB ?hb ?hl ?_); (case hO => go_loud (exact Kd.R_of_own0 w HB.out HS.out)); (case hok => go_loud (exact (fun k hk => ⟨hk.1, by simp [Value.ownBlock]; omega⟩))); (case hf => go_loud (exact (fun k hk => by have := HS.out; simp at hk; omega))); (case hB => go_loud (exact (aa_ (Below.refl _ _) _).mono HB.out)); (case hb => go_loud (have := HB.out; simp; omega)); (case hl => go_loud (have := HL.out; simp; omega)); intro v1 w1 ho hb hg hat)
  have ho' : Kd.R (Kd.int .i64) 3 w1 b (fun k => s ≤ k) v1 l0 := ho; have HO := aM_ ho'; have HB1 : Az (Below w.heap.size w w1) := ⟨Below.grown (aa_ (Below.refl _ _) (.cells #[] 3)) hg (by simp) (fun k hk => by simp [Value.ownBlock] at hk; omega)⟩; clear ho ho' hb hg hat
  go_wp2
  go_ret
  exact ⟨_, rfl, HO.out, HB1.out⟩
theorem cloneE (A0 : Option Addr) (c0 : Nat) (l0 : List S46) (w : World) (s b : Nat) (hr0 : Kd.R k46 46 w b (fun k => s ≤ k) (.slice A0 l0.length c0) l0) (hs : s ≤ w.heap.size) (hb : b ≤ w.heap.size) (hl : l0.length * 32 ≤ 140737488355328) :
  Calls Tryz.prog 65 #[.slice A0 l0.length c0] w fun e w' => ∃ v0_ : Value, e = .returned (v0_) ∧ Kd.R k46 46 w' b (fun k => s ≤ k) v0_ l0 ∧ Below w.heap.size w w' := by
 have q22 : ∀ (w : World) (a : Option Addr) (n c n' c' : Nat), (binOp .eql 40 (.slice a n c) (.slice none n' c')).run Tryz.prog w = .ok (.bool a.isNone) w := fun w a n c n' c' => Lib.run_eql_slice_nil w _ _ a n c n' c' Tryz.underlying40
 have HR := aM_ hr0
 have HL := aM_ hl
 have HB := aM_ hb
 have HS := aM_ hs
 clear hr0 hl hb hs
 cases A0 with
 | none =>
  have h0 : l0 = [] := by
   cases l0 with
   | nil => rfl
   | cons x l =>
    obtain ⟨A1, c1, e1, _, hc1⟩ := Kd.R_reads HR.out; injection e1 with e1; subst e1; obtain ⟨ad, e, _⟩ := hc1.2.2 (by simp)
    cases e
  subst h0
  go_enter Tryz.func65, Tryz.ntmps65
  go_wp2
  go_ret
  exact ⟨_, rfl, Kd.R_nil _ _ _ _ _, Below.refl _ _⟩
 | some ad =>
  have hrr : Az (ReadsRow (Kd.M k46 (w.alloc (.cells #[] 46)) b (fun k => s ≤ k ∧ k < w.heap.size)) (Kd.sz k46) (w.alloc (.cells #[] 46)) (some ad) l0.length l0) := ⟨by
   obtain ⟨A1, c1, e1, _, hc1⟩ := OwnRow.reads HR.out.2; injection e1 with e1; subst e1
   exact hc1.imp_ (aa_ (Below.refl _ _) _) (fun x cs hm => Kd.M_below (Kd.M_mono _ (fun k hk => ⟨hk.1.1, hk.2.2.1⟩) (Kd.M_bound _ hm)) (aa_ (Below.refl _ _) _))⟩
  go_enter Tryz.func65, Tryz.ntmps65
  go_wp2_with (at_builtin; go_loud (refine Kd.R_append_rows k46 (w0 := w) b rfl (.tmp 5) (.tmp 6) 40 46 (.agg #[.string ⟨#[]⟩, .int .i64 0, .int .i64 0]) 32 rfl Tryz.underlying40 (by kernel_rfl) rfl (by show 0 < 3; decide) (by decide) (.slice (some ⟨w.heap.size, 0, none⟩) 0 0) [] l0 (some ad) l0.length c0 (fun k => s ≤ k) (fun k => s ≤ k ∧ k < w.heap.size) rfl rfl ?hO hrr.out (fun _ _ h => h) ?hok ?hf ?hB ?hb ?hl ?_); (case hO => go_loud (exact Kd.R_of_own0 w HB.out HS.out)); (case hok => go_loud (exact (fun k hk => ⟨hk.1, by simp [Value.ownBlock]; omega⟩))); (case hf => go_loud (exact (fun k hk => by have := HS.out; simp at hk; omega))); (case hB => go_loud (exact (aa_ (Below.refl _ _) _).mono HB.out)); (case hb => go_loud (have := HB.out; simp; omega)); (case hl => go_loud (have := HL.out; simp; omega)); intro v1 w1 ho hb hg hat)
  have ho' : Kd.R k46 46 w1 b (fun k => s ≤ k) v1 l0 := ho; have HO := aM_ ho'; have HB1 : Az (Below w.heap.size w w1) := ⟨Below.grown (aa_ (Below.refl _ _) (.cells #[] 46)) hg (by simp) (fun k hk => by simp [Value.ownBlock] at hk; omega)⟩; clear ho ho' hb hg hat
  go_wp2
  go_ret
  exact ⟨_, rfl, HO.out, HB1.out⟩
theorem cloneP (A0 : Option Addr) (c0 : Nat) (l0 : List S48) (w : World) (s b : Nat) (hr0 : Kd.R k48 48 w b (fun k => s ≤ k) (.slice A0 l0.length c0) l0) (hs : s ≤ w.heap.size) (hb : b ≤ w.heap.size) (hl : l0.length * 48 ≤ 140737488355328) :
  Calls Tryz.prog 115 #[.slice A0 l0.length c0] w fun e w' => ∃ v0_ : Value, e = .returned (v0_) ∧ Kd.R k48 48 w' b (fun k => s ≤ k) v0_ l0 ∧ Below w.heap.size w w' := by
 have q22 : ∀ (w : World) (a : Option Addr) (n c n' c' : Nat), (binOp .eql 50 (.slice a n c) (.slice none n' c')).run Tryz.prog w = .ok (.bool a.isNone) w := fun w a n c n' c' => Lib.run_eql_slice_nil w _ _ a n c n' c' Tryz.underlying50
 have HR := aM_ hr0
 have HL := aM_ hl
 have HB := aM_ hb
 have HS := aM_ hs
 clear hr0 hl hb hs
 cases A0 with
 | none =>
  have h0 : l0 = [] := by
   cases l0 with
   | nil => rfl
   | cons x l =>
    obtain ⟨A1, c1, e1, _, hc1⟩ := Kd.R_reads HR.out; injection e1 with e1; subst e1; obtain ⟨ad, e, _⟩ := hc1.2.2 (by simp)
    cases e
  subst h0
  go_enter Tryz.func115, Tryz.ntmps115
  go_wp2
  go_ret
  exact ⟨_, rfl, Kd.R_nil _ _ _ _ _, Below.refl _ _⟩
 | some ad =>
  have hrr : Az (ReadsRow (Kd.M k48 (w.alloc (.cells #[] 48)) b (fun k => s ≤ k ∧ k < w.heap.size)) (Kd.sz k48) (w.alloc (.cells #[] 48)) (some ad) l0.length l0) := ⟨by
   obtain ⟨A1, c1, e1, _, hc1⟩ := OwnRow.reads HR.out.2; injection e1 with e1; subst e1
   exact hc1.imp_ (aa_ (Below.refl _ _) _) (fun x cs hm => Kd.M_below (Kd.M_mono _ (fun k hk => ⟨hk.1.1, hk.2.2.1⟩) (Kd.M_bound _ hm)) (aa_ (Below.refl _ _) _))⟩
  go_enter Tryz.func115, Tryz.ntmps115
  go_wp2_with (at_builtin; go_loud (refine Kd.R_append_rows k48 (w0 := w) b rfl (.tmp 5) (.tmp 6) 50 48 (.agg #[.int .i64 0, .string ⟨#[]⟩, .int .i64 0, .int .i64 0, .int .i64 0]) 48 rfl Tryz.underlying50 (by kernel_rfl) rfl (by show 0 < 5; decide) (by decide) (.slice (some ⟨w.heap.size, 0, none⟩) 0 0) [] l0 (some ad) l0.length c0 (fun k => s ≤ k) (fun k => s ≤ k ∧ k < w.heap.size) rfl rfl ?hO hrr.out (fun _ _ h => h) ?hok ?hf ?hB ?hb ?hl ?_); (case hO => go_loud (exact Kd.R_of_own0 w HB.out HS.out)); (case hok => go_loud (exact (fun k hk => ⟨hk.1, by simp [Value.ownBlock]; omega⟩))); (case hf => go_loud (exact (fun k hk => by have := HS.out; simp at hk; omega))); (case hB => go_loud (exact (aa_ (Below.refl _ _) _).mono HB.out)); (case hb => go_loud (have := HB.out; simp; omega)); (case hl => go_loud (have := HL.out; simp; omega)); intro v1 w1 ho hb hg hat)
  have ho' : Kd.R k48 48 w1 b (fun k => s ≤ k) v1 l0 := ho; have HO := aM_ ho'; have HB1 : Az (Below w.heap.size w w1) := ⟨Below.grown (aa_ (Below.refl _ _) (.cells #[] 48)) hg (by simp) (fun k hk => by simp [Value.ownBlock] at hk; omega)⟩; clear ho ho' hb hg hat
  go_wp2
  go_ret
  exact ⟨_, rfl, HO.out, HB1.out⟩
theorem cloneR (A0 : Option Addr) (c0 : Nat) (l0 : List S56) (w : World) (s b : Nat) (hr0 : Kd.R k56 56 w b (fun k => s ≤ k) (.slice A0 l0.length c0) l0) (hs : s ≤ w.heap.size) (hb : b ≤ w.heap.size) (hl : l0.length * 72 ≤ 140737488355328) :
  Calls Tryz.prog 102 #[.slice A0 l0.length c0] w fun e w' => ∃ v0_ : Value, e = .returned (v0_) ∧ Kd.R k56 56 w' b (fun k => s ≤ k) v0_ l0 ∧ Below w.heap.size w w' := by
 have q22 : ∀ (w : World) (a : Option Addr) (n c n' c' : Nat), (binOp .eql 41 (.slice a n c) (.slice none n' c')).run Tryz.prog w = .ok (.bool a.isNone) w := fun w a n c n' c' => Lib.run_eql_slice_nil w _ _ a n c n' c' Tryz.underlying41
 have HR := aM_ hr0
 have HL := aM_ hl
 have HB := aM_ hb
 have HS := aM_ hs
 clear hr0 hl hb hs
 cases A0 with
 | none =>
  have h0 : l0 = [] := by
   cases l0 with
   | nil => rfl
   | cons x l =>
    obtain ⟨A1, c1, e1, _, hc1⟩ := Kd.R_reads HR.out; injection e1 with e1; subst e1; obtain ⟨ad, e, _⟩ := hc1.2.2 (by simp)
    cases e
  subst h0
  go_enter Tryz.func102, Tryz.ntmps102
  go_wp2
  go_ret
  exact ⟨_, rfl, Kd.R_nil _ _ _ _ _, Below.refl _ _⟩
 | some ad =>
  have hrr : Az (ReadsRow (Kd.M k56 (w.alloc (.cells #[] 56)) b (fun k => s ≤ k ∧ k < w.heap.size)) (Kd.sz k56) (w.alloc (.cells #[] 56)) (some ad) l0.length l0) := ⟨by
   obtain ⟨A1, c1, e1, _, hc1⟩ := OwnRow.reads HR.out.2; injection e1 with e1; subst e1
   exact hc1.imp_ (aa_ (Below.refl _ _) _) (fun x cs hm => Kd.M_below (Kd.M_mono _ (fun k hk => ⟨hk.1.1, hk.2.2.1⟩) (Kd.M_bound _ hm)) (aa_ (Below.refl _ _) _))⟩
  go_enter Tryz.func102, Tryz.ntmps102
  go_wp2_with (at_builtin; go_loud (refine Kd.R_append_rows k56 (w0 := w) b rfl (.tmp 5) (.tmp 6) 41 56 (.agg #[.int .i64 0, .slice none 0 0, .int .i64 0, .slice none 0 0, .int .i64 0]) 72 rfl Tryz.underlying41 (by kernel_rfl) rfl (by show 0 < 5; decide) (by decide) (.slice (some ⟨w.heap.size, 0, none⟩) 0 0) [] l0 (some ad) l0.length c0 (fun k => s ≤ k) (fun k => s ≤ k ∧ k < w.heap.size) rfl rfl ?hO hrr.out (fun _ _ h => h) ?hok ?hf ?hB ?hb ?hl ?_); (case hO => go_loud (exact Kd.R_of_own0 w HB.out HS.out)); (case hok => go_loud (exact (fun k hk => ⟨hk.1, by simp [Value.ownBlock]; omega⟩))); (case hf => go_loud (exact (fun k hk => by have := HS.out; simp at hk; omega))); (case hB => go_loud (exact (aa_ (Below.refl _ _) _).mono HB.out)); (case hb => go_loud (have := HB.out; simp; omega)); (case hl => go_loud (have := HL.out; simp; omega)); intro v1 w1 ho hb hg hat)
  have ho' : Kd.R k56 56 w1 b (fun k => s ≤ k) v1 l0 := ho; have HO := aM_ ho'; have HB1 : Az (Below w.heap.size w w1) := ⟨Below.grown (aa_ (Below.refl _ _) (.cells #[] 56)) hg (by simp) (fun k hk => by simp [Value.ownBlock] at hk; omega)⟩; clear ho ho' hb hg hat
  go_wp2
  go_ret
  exact ⟨_, rfl, HO.out, HB1.out⟩
theorem vs_ (A0 : Option Addr) (c0 : Nat) (l0 : List S52) (w : World) (s b : Nat) (hr0 : Kd.R k52 52 w b (fun k => s ≤ k) (.slice A0 l0.length c0) l0) (hs : s ≤ w.heap.size) (hb : b ≤ w.heap.size) (hl : l0.length * 32 ≤ 140737488355328) :
  Calls Tryz.prog 66 #[.slice A0 l0.length c0] w fun e w' => ∃ v0_ : Value, e = .returned (v0_) ∧ Kd.R k52 52 w' b (fun k => s ≤ k) v0_ l0 ∧ Below w.heap.size w w' := by
 have q22 : ∀ (w : World) (a : Option Addr) (n c n' c' : Nat), (binOp .eql 42 (.slice a n c) (.slice none n' c')).run Tryz.prog w = .ok (.bool a.isNone) w := fun w a n c n' c' => Lib.run_eql_slice_nil w _ _ a n c n' c' Tryz.underlying42
 have HR := aM_ hr0
 have HL := aM_ hl
 have HB := aM_ hb
 have HS := aM_ hs
 clear hr0 hl hb hs
 cases A0 with
 | none =>
  have h0 : l0 = [] := by
   cases l0 with
   | nil => rfl
   | cons x l =>
    obtain ⟨A1, c1, e1, _, hc1⟩ := Kd.R_reads HR.out; injection e1 with e1; subst e1; obtain ⟨ad, e, _⟩ := hc1.2.2 (by simp)
    cases e
  subst h0
  go_enter Tryz.func66, Tryz.ntmps66
  go_wp2
  go_ret
  exact ⟨_, rfl, Kd.R_nil _ _ _ _ _, Below.refl _ _⟩
 | some ad =>
  have hrr : Az (ReadsRow (Kd.M k52 (w.alloc (.cells #[] 52)) b (fun k => s ≤ k ∧ k < w.heap.size)) (Kd.sz k52) (w.alloc (.cells #[] 52)) (some ad) l0.length l0) := ⟨by
   obtain ⟨A1, c1, e1, _, hc1⟩ := OwnRow.reads HR.out.2; injection e1 with e1; subst e1
   exact hc1.imp_ (aa_ (Below.refl _ _) _) (fun x cs hm => Kd.M_below (Kd.M_mono _ (fun k hk => ⟨hk.1.1, hk.2.2.1⟩) (Kd.M_bound _ hm)) (aa_ (Below.refl _ _) _))⟩
  go_enter Tryz.func66, Tryz.ntmps66
  go_wp2_with (at_builtin; go_loud (refine Kd.R_append_rows k52 (w0 := w) b rfl (.tmp 5) (.tmp 6) 42 52 (.agg #[.int .i64 0, .slice none 0 0]) 32 rfl Tryz.underlying42 (by kernel_rfl) rfl (by show 0 < 2; decide) (by decide) (.slice (some ⟨w.heap.size, 0, none⟩) 0 0) [] l0 (some ad) l0.length c0 (fun k => s ≤ k) (fun k => s ≤ k ∧ k < w.heap.size) rfl rfl ?hO hrr.out (fun _ _ h => h) ?hok ?hf ?hB ?hb ?hl ?_); (case hO => go_loud (exact Kd.R_of_own0 w HB.out HS.out)); (case hok => go_loud (exact (fun k hk => ⟨hk.1, by simp [Value.ownBlock]; omega⟩))); (case hf => go_loud (exact (fun k hk => by have := HS.out; simp at hk; omega))); (case hB => go_loud (exact (aa_ (Below.refl _ _) _).mono HB.out)); (case hb => go_loud (have := HB.out; simp; omega)); (case hl => go_loud (have := HL.out; simp; omega)); intro v1 w1 ho hb hg hat)
  have ho' : Kd.R k52 52 w1 b (fun k => s ≤ k) v1 l0 := ho; have HO := aM_ ho'; have HB1 : Az (Below w.heap.size w w1) := ⟨Below.grown (aa_ (Below.refl _ _) (.cells #[] 52)) hg (by simp) (fun k hk => by simp [Value.ownBlock] at hk; omega)⟩; clear ho ho' hb hg hat
  go_wp2
  go_ret
  exact ⟨_, rfl, HO.out, HB1.out⟩
theorem cloneL (A0 : Option Addr) (c0 : Nat) (l0 : List S44) (w : World) (s b : Nat) (hr0 : Kd.R k44 44 w b (fun k => s ≤ k) (.slice A0 l0.length c0) l0) (hs : s ≤ w.heap.size) (hb : b ≤ w.heap.size) (hl : l0.length * 104 ≤ 140737488355328) :
  Calls Tryz.prog 83 #[.slice A0 l0.length c0] w fun e w' => ∃ v0_ : Value, e = .returned (v0_) ∧ Kd.R k44 44 w' b (fun k => s ≤ k) v0_ l0 ∧ Below w.heap.size w w' := by
 have q22 : ∀ (w : World) (a : Option Addr) (n c n' c' : Nat), (binOp .eql 26 (.slice a n c) (.slice none n' c')).run Tryz.prog w = .ok (.bool a.isNone) w := fun w a n c n' c' => Lib.run_eql_slice_nil w _ _ a n c n' c' Tryz.underlying26
 have HR := aM_ hr0
 have HL := aM_ hl
 have HB := aM_ hb
 have HS := aM_ hs
 clear hr0 hl hb hs
 cases A0 with
 | none =>
  have h0 : l0 = [] := by
   cases l0 with
   | nil => rfl
   | cons x l =>
    obtain ⟨A1, c1, e1, _, hc1⟩ := Kd.R_reads HR.out; injection e1 with e1; subst e1; obtain ⟨ad, e, _⟩ := hc1.2.2 (by simp)
    cases e
  subst h0
  go_enter Tryz.func83, Tryz.ntmps83
  go_wp2
  go_ret
  exact ⟨_, rfl, Kd.R_nil _ _ _ _ _, Below.refl _ _⟩
 | some ad =>
  have hrr : Az (ReadsRow (Kd.M k44 (w.alloc (.cells #[] 44)) b (fun k => s ≤ k ∧ k < w.heap.size)) (Kd.sz k44) (w.alloc (.cells #[] 44)) (some ad) l0.length l0) := ⟨by
   obtain ⟨A1, c1, e1, _, hc1⟩ := OwnRow.reads HR.out.2; injection e1 with e1; subst e1
   exact hc1.imp_ (aa_ (Below.refl _ _) _) (fun x cs hm => Kd.M_below (Kd.M_mono _ (fun k hk => ⟨hk.1.1, hk.2.2.1⟩) (Kd.M_bound _ hm)) (aa_ (Below.refl _ _) _))⟩
  go_enter Tryz.func83, Tryz.ntmps83
  go_wp2_with (at_builtin; go_loud (refine Kd.R_append_rows k44 (w0 := w) b rfl (.tmp 5) (.tmp 6) 26 44 (.agg #[.string ⟨#[]⟩, .int .i64 0, .int .i64 0, .slice none 0 0, .slice none 0 0, .slice none 0 0]) 104 rfl Tryz.underlying26 (by kernel_rfl) rfl (by show 0 < 6; decide) (by decide) (.slice (some ⟨w.heap.size, 0, none⟩) 0 0) [] l0 (some ad) l0.length c0 (fun k => s ≤ k) (fun k => s ≤ k ∧ k < w.heap.size) rfl rfl ?hO hrr.out (fun _ _ h => h) ?hok ?hf ?hB ?hb ?hl ?_); (case hO => go_loud (exact Kd.R_of_own0 w HB.out HS.out)); (case hok => go_loud (exact (fun k hk => ⟨hk.1, by simp [Value.ownBlock]; omega⟩))); (case hf => go_loud (exact (fun k hk => by have := HS.out; simp at hk; omega))); (case hB => go_loud (exact (aa_ (Below.refl _ _) _).mono HB.out)); (case hb => go_loud (have := HB.out; simp; omega)); (case hl => go_loud (have := HL.out; simp; omega)); intro v1 w1 ho hb hg hat)
  have ho' : Kd.R k44 44 w1 b (fun k => s ≤ k) v1 l0 := ho; have HO := aM_ ho'; have HB1 : Az (Below w.heap.size w w1) := ⟨Below.grown (aa_ (Below.refl _ _) (.cells #[] 44)) hg (by simp) (fun k hk => by simp [Value.ownBlock] at hk; omega)⟩; clear ho ho' hb hg hat
  go_wp2
  go_ret
  exact ⟨_, rfl, HO.out, HB1.out⟩
theorem zq_ (A0 : Option Addr) (c0 : Nat) (l0 : List S56) (w : World) (hr0 : Kd.C k56 w A0 l0.length l0) (hl : l0.length * 72 ≤ 140737488355328) :
  Calls Tryz.prog 102 #[.slice A0 l0.length c0] w fun e w' => ∃ v0_ : Value, e = .returned (v0_) ∧ Kd.N k56 56 w' w.heap.size (fun _ => True) v0_ l0 ∧ Below w.heap.size w w' := by
 have q22 : ∀ (w : World) (a : Option Addr) (n c n' c' : Nat), (binOp .eql 41 (.slice a n c) (.slice none n' c')).run Tryz.prog w = .ok (.bool a.isNone) w := fun w a n c n' c' => Lib.run_eql_slice_nil w _ _ a n c n' c' Tryz.underlying41
 have HR := aM_ hr0
 have HL := aM_ hl
 clear hr0 hl
 cases A0 with
 | none =>
  have h0 : l0 = [] := by
   cases l0 with
   | nil => rfl
   | cons x l => obtain ⟨ad, e, _⟩ := HR.out.2.2 (by simp); cases e
  subst h0
  go_enter Tryz.func102, Tryz.ntmps102
  go_wp2
  go_ret
  exact ⟨_, rfl, Kd.N_nil _ _ _ _ _, Below.refl _ _⟩
 | some ad =>
  have HF := aM_ (Kd.C_F k56_heap HR.out); have HM : Az (Kd.N k56 56 (w.alloc (.cells #[] 56)) w.heap.size (fun _ => True) (.slice (some ⟨w.heap.size, 0, none⟩) 0 0) []) := ⟨Kd.R_N (Kd.R_mono (Kd.R_of_own0 w (Nat.le_refl _) (Nat.le_refl _)) (fun _ _ => trivial))⟩
  go_enter Tryz.func102, Tryz.ntmps102
  go_wp2_with (at_builtin; go_loud (refine Kd.N_append_rows k56 (w0 := w) w.heap.size rfl (.tmp 5) (.tmp 6) 41 56 (.agg #[.int .i64 0, .slice none 0 0, .int .i64 0, .slice none 0 0, .int .i64 0]) 72 rfl Tryz.underlying41 (by kernel_rfl) rfl (by show 0 < 5; decide) (by decide) (.slice (some ⟨w.heap.size, 0, none⟩) 0 0) [] l0 (some ad) l0.length c0 (fun _ => True) (fun k => k < w.heap.size) rfl rfl HM.out (Kd.F_alloc HF.out _) (fun k hk => ⟨trivial, fun e => by simp [Value.ownBlock] at e; omega⟩) (fun _ _ => trivial) (aa_ (Below.refl _ _) _) (by simp) (by have := HL.out; simp; omega) ?_); intro v1 w1 ho hb hg hat)
  have ho' : Kd.N k56 56 w1 w.heap.size (fun _ => True) v1 l0 := ho; have HO := aM_ ho'; have HB := aM_ hb; clear ho ho' hb hg hat
  go_wp2
  go_ret
  exact ⟨_, rfl, HO.out, HB.out⟩
def td_ (l : List S44) (at5 : Int) : Int := if (ya_ l at5).f1 < at5 then (ya_ l at5).f1 else -1
theorem xl_ (l : List S44) (at5 : Int) (h : 0 ≤ at5) : td_ l at5 < at5 := by
 unfold td_
 split
 ·assumption
 omega
theorem aq_ (A : Option Addr) (c : Nat) (l : List S44) (a : Int) (w : World) (hr : Kd.C k44 w A l.length l) (hc : l.length ≤ c) (h0 : 0 ≤ a) (h1 : a < (l.length : Int)) :
  Calls Tryz.prog 60 #[.slice A l.length c, .int .i64 a] w fun e w' => e = .returned (.int .i64 (td_ l a)) ∧ Below w.heap.size w w' :=
 Calls.mono (blob_parent.calls A c l a (td_ l a) w hr hc (by unfold blob_parent.f td_; rw [if_pos h0, if_pos h1]; split <;> rfl)) (by rintro e w' ⟨rfl, hd⟩; exact ⟨rfl, hd.below⟩)
def gd_ (l : List S44) : Nat → Int → List S56 → List S56
 | 0, _, out => out
 | n + 1, at5, out => if jb_ at5 0 ((l.length : Int) - 1) = true then gd_ l n (td_ l at5) ((ya_ l at5).f4 ++ out) else out
def me_ (l : List S44) (i : Nat) : List S56 := gd_ l (i + 1) i []
theorem ij_ (A : Option Addr) (c : Nat) (l : List S44) (i0 : Nat) (w : World) (hr : Kd.C k44 w A l.length l) (hc : l.length ≤ c) (hi : i0 < l.length) (hl : l.length ≤ 100000) (hL : ∀ x ∈ l, x.f4.length ≤ 1000000) :
  Calls Tryz.prog 48 #[.slice A l.length c, .int .i64 i0] w fun e w' => ∃ v : Value, e = .returned v ∧ Kd.N k56 56 w' w.heap.size (fun _ => True) v (me_ l i0) ∧ Below w.heap.size w w' := by
 have HR := aM_ hr
 have HC := aM_ hc
 have HLL := aM_ hL
 have hbn : l.length ≤ 9223372036854775807 := by omega
 have HE : Az (me_ l i0 = gd_ l (i0 + 1) i0 []) := ⟨rfl⟩
 generalize me_ l i0 = out at *
 have hw1 : wrap64 ((l.length : Int) - 1) = (l.length : Int) - 1 := by rw [wrap64]; omega
 clear hr hc hL
 go_enter Tryz.func48, Tryz.ntmps48
 go_wp2
 go_loopg [1, 5] (i0 + 1) (fun gg s1 s5 wr => ∃ (a : Int) (n : Nat) (ys : List S56), s1 = .int .i64 a ∧ (a + 1).toNat ≤ gg ∧ a < n ∧ Az ((ys.length : Int) + 1000000 * (a + 1) ≤ 1000000 * l.length) ∧ a < l.length ∧ Az (out = gd_ l n a ys) ∧ Az (Kd.N k56 56 wr w.heap.size (fun _ => True) s5 ys) ∧ Az (Below w.heap.size w wr))
 case atStart => exact ⟨i0, i0 + 1, [], rfl, by omega, by omega, ⟨by simp; omega⟩, by omega, HE, ⟨Kd.N_nil _ _ _ _ _⟩, ⟨Below.refl _ _⟩⟩
 clear HE
 obtain ⟨a, n, ys, rfl, hgg, han, HYL, hal, HE, HN, HW⟩ := hrel
 have HWI := aM_ (we_ a 0 ((l.length : Int) - 1))
 cases hin : jb_ a 0 ((l.length : Int) - 1) with
 | false =>
  rw [hin] at HWI
  have HG : Az (out = ys) := ⟨by
   rw [HE.out]
   cases n with
   | zero => rfl
   | succ n => rw [gd_, if_neg (by rw [hin]; decide)]⟩
  clear hin HE
  go_wp2_with fail
  refine (HWI.out _).mono ?_; rintro e w2 ⟨rfl, hB2⟩
  go_wp2
  go_ret
  rw [HG.out]
  exact ⟨_, rfl, Kd.N_below HN.out hB2, fa_ HW.out hB2⟩
 | true =>
  rw [hin] at HWI
  have hr2 : 0 ≤ a ∧ a ≤ (l.length : Int) - 1 := by
   unfold jb_ at hin
   simpa using hin
  obtain ⟨k, rfl⟩ : ∃ k : Nat, a = (k : Int) := ⟨a.toNat, by omega⟩; have hk : k < l.length := by omega
  have hkz : (k : Int) < (l.length : Int) := by omega
  obtain ⟨n, rfl⟩ : ∃ m, n = m + 1 := ⟨n - 1, by omega⟩; have HE1 : Az (out = gd_ l n (td_ l k) ((ya_ l (k : Int)).f4 ++ ys)) := ⟨by rw [HE.out, gd_, if_pos hin]⟩; have HPL := aM_ (xl_ l (k : Int) (by omega)); clear hin HE hr2
  go_wp2_with fail
  refine (HWI.out _).mono ?_; rintro e w2 ⟨rfl, hB2⟩; have HN2 := aM_ (Kd.N_below HN.out hB2); have HW2 : Az (Below w.heap.size w w2) := ⟨fa_ HW.out hB2⟩; clear hB2 HN HW HWI; obtain ⟨ad, A3, c3, A4, c4, A5, c5, hA, h0, h1, h2, h3, h4, h5, l3, g3, l4, g4, l5, g5⟩ := lg_ (Kd.C_below HR.out HW2.out) (k : Int) (by omega) hkz
  have hrl : (ya_ l (k : Int)).f4.length ≤ 1000000 := by
   have hm : ya_ l (k : Int) ∈ l := by
    have : ya_ l (k : Int) = l[k] := by
     show l.getD (k : Int).toNat _ = _; rw [Int.toNat_natCast, List.getD_eq_getElem?_getD, List.getElem?_eq_getElem hk]; rfl
    rw [this]; exact List.getElem_mem hk
   exact HLL.out _ hm
  generalize (ya_ l (k : Int)).f4 = rs at *; rw [Int.toNat_natCast] at h4; have HG4 := aM_ g4; have HPW := aM_ (fun W (hB : Below w.heap.size w W) => aq_ A c l (k : Int) W (Kd.C_below HR.out hB) HC.out (by omega) hkz); have HCL := aM_ (zq_ A4 c4 rs w2 g4 (by omega)); have HRL := aM_ hrl; obtain ⟨A6, c6, hs6⟩ := Kd.N_slice HN2.out; subst hs6; subst hA; clear h0 h1 h2 h3 h5 l3 g3 l4 g4 l5 g5 hrl
  go_wp2_with fail
  refine HCL.out.mono ?_; rintro e w3 ⟨v3, rfl, hN3, hB3⟩; have HN3 := aM_ hN3; have HB3 := aM_ hB3; have HF2 := aM_ (Kd.F_below (Kd.F_bound (Kd.N_F HN2.out)) hB3); obtain ⟨A7, c7, hs7⟩ := Kd.N_slice hN3; subst hs7; have HYL1 : Az (ys.length ≤ 1000000 * 100000 ∧ rs.length ≤ 1000000) := ⟨by have := HYL.out; omega, HRL.out⟩; clear hN3 hB3 HCL h4
  go_wp2_with (at_builtin; go_loud (refine Kd.N_append_rows k56 (w0 := w2) w2.heap.size rfl (.tmp 19) (.tmp 20) 41 56 (.agg #[.int .i64 0, .slice none 0 0, .int .i64 0, .slice none 0 0, .int .i64 0]) 72 rfl Tryz.underlying41 (by kernel_rfl) rfl (by show 0 < 5; decide) (by decide) (.slice A7 rs.length c7) rs ys A6 ys.length c6 (fun _ => True) (fun k => True ∧ k < w2.heap.size) rfl rfl HN3.out HF2.out (fun k hk => ⟨trivial, fun e => by have h2 := hk.2; have h3 := Kd.N_base HN3.out k e.symm; omega⟩) (fun _ _ => trivial) HB3.out HB3.out.size (by have := HYL1.out; omega) ?_); intro v4 w4 ho hb hg hat)
  have HN4 : Az (Kd.N k56 56 w4 w.heap.size (fun _ => True) v4 (rs ++ ys)) := ⟨Kd.N_lower ho HW2.out.size⟩; have HW4 : Az (Below w.heap.size w w4) := ⟨fa_ HW2.out hb⟩; have HYL4 : Az (((rs ++ ys).length : Int) + 1000000 * (td_ l k + 1) ≤ 1000000 * l.length) := ⟨by rw [List.length_append]; have h1 := HYL.out; have h2 := HRL.out; have h3 := HPL.out; omega⟩; clear ho hb hg hat HN3 HB3 HF2 HYL1 HN2 HW2 HYL HRL; generalize rs ++ ys = zs at *
  go_wp2_with fail
  refine (HPW.out _ HW4.out).mono ?_; rintro e w5 ⟨rfl, hB5⟩; have HN5 := aM_ (Kd.N_below HN4.out hB5); have HW5 : Az (Below w.heap.size w w5) := ⟨fa_ HW4.out hB5⟩; have hp := HPL.out; clear hB5 HN4 HW4 HPW HPL; generalize td_ l (k : Int) = q at *
  go_wp2
  go_roundg ((q + 1).toNat)
  case measure => omega
  case rel => exact ⟨q, n, zs, rfl, by omega, by omega, HYL4, by omega, HE1, HN5, HW5⟩
end Go.Proofs.YtiocgaekoeekgaaGreat.P
end
section
namespace Go.Proofs.YtiocgaekoeekgaaGreat.P
open Go.RowKit YtiocgaekoeekgaaGreatW.PrintWords YtiocgaekoeekgaaGreatW.PrintLast YtiocgaekoeekgaaGreatW.PrintMore
attribute [local go_sem] vb_ tb_ jc_ ic_ lb_ kb_ ub_ sb_   
set_option linter.unusedVariables false
set_option linter.unusedSimpArgs false
def okc (c : Int) : Bool := (decide (97 ≤ c) && decide (c ≤ 122)) || ((decide (48 ≤ c) && decide (c ≤ 57)) || decide (c = 45))
def im_ (s : BA) : Nat → Nat → Bool
 | 0, _ => jb_ s.size 1 12
 | n + 1, i => if okc (bt s i) = true then im_ s n (i + 1) else false
def idP (s : BA) : Bool := im_ s s.size 0
theorem okc_true {c : Int} (h : okc c = true) : (97 ≤ c ∧ c ≤ 122) ∨ (48 ≤ c ∧ c ≤ 57) ∨ c = 45 := by
 unfold okc at h
 simpa using h
theorem lu_ {c : Int} (h : ¬ okc c = true) : ¬ ((97 ≤ c ∧ c ≤ 122) ∨ (48 ≤ c ∧ c ≤ 57) ∨ c = 45) := by
 unfold okc at h
 simpa using h
theorem id_some (s : BA) (hs : s.size ≤ 1000000000000) : ∀ n i : Nat, i + n = s.size → blob_id.l0 (n + 1) s (i : Int) = some (im_ s n i) := by
 intro n
 induction n with
 | zero =>
  intro i hi; rw [blob_id.l0, if_neg (by omega)]; show (blob_within.f _ _ _).bind _ = _; rw [xg_]
  rfl
 | succ n ih =>
  intro i hi; have h1 : (i : Int) < (s.size : Int) := by omega
  have h2 : (0 : Int) ≤ (i : Int) := by omega
  have hw : wrap64 ((i : Int) + 1) = ((i + 1 : Nat) : Int) := by rw [wrap64]; omega
  have hr := ih (i + 1) (by omega); rw [blob_id.l0, if_pos h1, if_pos h2, hw, hr, im_]; generalize im_ s n (i + 1) = X; generalize bt s (i : Int) = c
  by_cases ho : okc c = true
  ·rw [if_pos ho]
   have := okc_true ho
   repeat' split
   all_goals first | rfl | (exfalso; omega)
  rw [if_neg ho]; have := lu_ ho
  repeat' split
  all_goals first | rfl | (exfalso; omega)
theorem id_w (s : BA) (w : World) (hs : s.size ≤ 1000000000000) : Calls Tryz.prog 41 #[.string s] w fun e w' => e = .returned (.bool (idP s)) ∧ Below w.heap.size w w' :=
 Calls.mono (blob_id.calls (s.size + 1) s _ w (id_some s hs s.size 0 (by omega))) (by rintro e w' ⟨rfl, hd⟩; exact ⟨rfl, hd.below⟩)
end Go.Proofs.YtiocgaekoeekgaaGreat.P
end
section
namespace Go.Proofs.YtiocgaekoeekgaaGreat.P
open Go.RowKit YtiocgaekoeekgaaGreatW.PrintWords YtiocgaekoeekgaaGreatW.PrintLast YtiocgaekoeekgaaGreatW.PrintMore
attribute [local go_sem] vb_ tb_ jc_ ic_ lb_ kb_ ub_ sb_   
set_option linter.unusedVariables false
set_option linter.unusedSimpArgs false
attribute [local go_sem] Oper.semAt_some
noncomputable def wn_ (l : List S44) (i : Nat) (x : S44) : Bool :=
 idP x.f0 && (!((l.take i).any fun y => y.f0.toList == x.f0.toList) && (jb_ x.f1 (-1) ((i : Int) - 1) && (jb_ x.f2 0 3 && (!decide (30 < x.f3.length) && (!decide (20 < x.f5.length) && (x.f3.all ie_ && (x.f5.all cf_ && (!decide (60 < x.f4.length) && cd_ (me_ l i)))))))))
noncomputable def re_ (l : List S44) : Nat → Nat → Bool
 | 0, _ => true
 | n + 1, i => if wn_ l i (ya_ l (i : Int)) = true then re_ l n (i + 1) else false
noncomputable def bf_ (l : List S44) : Bool := if 10 < l.length then false else re_ l l.length 0
def wo_ (l : List S44) : Prop := ∀ x ∈ l, x.f0.size ≤ 1000000000000 ∧ x.f4.length ≤ 1000000
theorem uk_ (A : Option Addr) (c : Nat) (l : List S44) (w : World) (hr : Kd.C k44 w A l.length l) (hc : l.length ≤ c) (hok : wo_ l) :
  Calls Tryz.prog 16 #[.slice A l.length c] w fun e w' => e = .returned (.bool (bf_ l)) ∧ Below w.heap.size w w' := by
 have hmf : ∀ (fn : Fn) (first cap : Array Value) (w : World), (Instr.makeFunc fn first cap).run Tryz.prog w = .ok (.func fn first cap) w := fun _ _ _ _ => rfl
 have HR := aM_ hr
 have HC := aM_ hc
 have HOK := aM_ hok
 have hbn : l.length ≤ 9223372036854775807 := hr.2.1
 by_cases hbig : 10 < l.length
 ·have HE : Az (bf_ l = false) := ⟨if_pos hbig⟩
  have hbz : decide ((10 : Int) < (l.length : Int)) = true := decide_eq_true (by omega); have hbz' : decide (10 < l.length) = true := decide_eq_true hbig; clear hr hc hok hbig
  go_enter Tryz.func16, Tryz.ntmps16
  go_wp2
  go_ret
  rw [HE.out]; exact ⟨rfl, Below.refl _ _⟩
 have HE : Az (bf_ l = re_ l (l.length - 0) 0) := ⟨if_neg hbig⟩
 have hlt : l.length ≤ 10 := by omega
 have hbz : decide ((10 : Int) < (l.length : Int)) = false := decide_eq_false (by omega)
 have hbz' : decide (10 < l.length) = false := decide_eq_false hbig
 generalize bf_ l = r at *
 clear hr hc hok hbig
 go_enter Tryz.func16, Tryz.ntmps16
 go_wp2
 go_loopg [11] l.length (fun gg s11 wr => ∃ i : Nat, i ≤ l.length ∧ l.length - i ≤ gg ∧ s11 = .int .i64 i ∧ Az (r = re_ l (l.length - i) i) ∧ Az (Below w.heap.size w wr))
 case atStart => exact ⟨0, by omega, by omega, rfl, HE, ⟨Below.refl _ _⟩⟩
 clear HE
 obtain ⟨i, hi, hgg, rfl, HE, HW⟩ := hrel
 by_cases hil : i < l.length
 ·have hilz : (i : Int) < (l.length : Int) := by omega
  obtain ⟨ad, A3, c3, A4, c4, A5, c5, hA, h0, h1, h2, h3, h4, h5, l3, g3, l4, g4, l5, g5⟩ := lg_ HR.out (i : Int) (by omega) hilz; have HA : Az (A = some ad) := ⟨hA⟩
  have hy : ya_ l (i : Int) = l[i] := by
   show l.getD (i : Int).toNat _ = _; rw [Int.toNat_natCast, List.getD_eq_getElem?_getD, List.getElem?_eq_getElem hil]; rfl
  have HOX : Az ((ya_ l (i : Int)).f0.size ≤ 1000000000000 ∧ (ya_ l (i : Int)).f4.length ≤ 1000000) := ⟨by rw [hy]; exact HOK.out _ (List.getElem_mem hil)⟩; have HE1 : Az (r = if wn_ l i (ya_ l (i : Int)) = true then re_ l (l.length - (i + 1)) (i + 1) else false) := ⟨by rw [HE.out, show l.length - i = (l.length - (i + 1)) + 1 from by omega, re_]⟩; clear hy HE; generalize ya_ l (i : Int) = x at *; rw [Int.toNat_natCast] at h0 h1 h2 h3 h4 h5; replace h0 := ha_ HW.out h0; replace h1 := ha_ HW.out h1; replace h2 := ha_ HW.out h2; replace h3 := ha_ HW.out h3; replace h4 := ha_ HW.out h4; replace h5 := ha_ HW.out h5; have G3 := aM_ g3; have L3 := aM_ l3; have G5 := aM_ g5; have L5 := aM_ l5; clear l3 g3 l4 g4 l5 g5; obtain ⟨b1, hb1⟩ : ∃ b, idP x.f0 = b := ⟨_, rfl⟩; obtain ⟨b2, hb2⟩ : ∃ b, ((l.take i).any fun y => y.f0.toList == x.f0.toList) = b := ⟨_, rfl⟩; obtain ⟨b3, hb3⟩ : ∃ b, jb_ x.f1 (-1) ((i : Int) - 1) = b := ⟨_, rfl⟩; obtain ⟨b4, hb4⟩ : ∃ b, jb_ x.f2 0 3 = b := ⟨_, rfl⟩; obtain ⟨b5, hb5⟩ : ∃ b, decide (30 < x.f3.length) = b := ⟨_, rfl⟩; obtain ⟨b6, hb6⟩ : ∃ b, decide (20 < x.f5.length) = b := ⟨_, rfl⟩; obtain ⟨b7, hb7⟩ : ∃ b, x.f3.all ie_ = b := ⟨_, rfl⟩; obtain ⟨b8, hb8⟩ : ∃ b, x.f5.all cf_ = b := ⟨_, rfl⟩; obtain ⟨b9, hb9⟩ : ∃ b, decide (60 < x.f4.length) = b := ⟨_, rfl⟩; have hb5' : decide ((30 : Int) < (x.f3.length : Int)) = b5 := by rw [← hb5]; congr 1; simp; omega
  have hb6' : decide ((20 : Int) < (x.f5.length : Int)) = b6 := by rw [← hb6]; congr 1; simp; omega
  have hb9' : decide ((60 : Int) < (x.f4.length : Int)) = b9 := by rw [← hb9]; congr 1; simp; omega
  obtain ⟨RS, hRS⟩ : ∃ RS, me_ l i = RS := ⟨_, rfl⟩; obtain ⟨b10, hb10⟩ : ∃ b, cd_ RS = b := ⟨_, rfl⟩; have HB : Az (wn_ l i x = (b1 && (!b2 && (b3 && (b4 && (!b5 && (!b6 && (b7 && (b8 && (!b9 && b10)))))))))) := ⟨by rw [← hb1, ← hb2, ← hb3, ← hb4, ← hb5, ← hb6, ← hb7, ← hb8, ← hb9, ← hb10, ← hRS]; rfl⟩; have HK0 : Az ((wr.alloc (.cells #[.string x.f0, .int .i64 x.f1, .int .i64 x.f2, .slice A3 x.f3.length c3, .slice A4 x.f4.length c4, .slice A5 x.f5.length c5] 44)).heap[wr.heap.size]? = some (.cells #[.string x.f0, .int .i64 x.f1, .int .i64 x.f2, .slice A3 x.f3.length c3, .slice A4 x.f4.length c4, .slice A5 x.f5.length c5] 44 (0, 0))) := ⟨ra_ wr _⟩; have HB0 : Az (Below w.heap.size w (wr.alloc (.cells #[.string x.f0, .int .i64 x.f1, .int .i64 x.f2, .slice A3 x.f3.length c3, .slice A4 x.f4.length c4, .slice A5 x.f5.length c5] 44))) := ⟨fa_ HW.out (aa_ (Below.refl _ _) _)⟩; obtain ⟨i0, hinf, hz0, hz1, hz2⟩ := info_parts info44; have hcut := cut_to (P := Tryz.prog) 26 44 .i64 Tryz.underlying26 hinf A l.length c (i : Int) (by omega) (by omega) HC.out; rw [Int.toNat_natCast] at hcut; clear hinf hz0 hz1 hz2; have hwi : wrap64 ((i : Int) - 1) = (i : Int) - 1 := by rw [wrap64]; omega
  have H1 : Az (∀ W, Calls Tryz.prog 41 #[.string x.f0] W fun e w' => e = .returned (.bool b1) ∧ Below W.heap.size W w') := ⟨by rw [← hb1]; exact fun W => id_w x.f0 W HOX.out.1⟩
  have H2 : Az (Calls Tryz.prog 39 #[.slice A i c, .func (.func 40) #[] #[.pointer (some ⟨wr.heap.size, 0, none⟩)]] (wr.alloc (.cells #[.string x.f0, .int .i64 x.f1, .int .i64 x.f2, .slice A3 x.f3.length c3, .slice A4 x.f4.length c4, .slice A5 x.f5.length c5] 44)) fun e w' => e = .returned (.bool b2) ∧ Below (wr.alloc (.cells #[.string x.f0, .int .i64 x.f1, .int .i64 x.f2, .slice A3 x.f3.length c3, .slice A4 x.f4.length c4, .slice A5 x.f5.length c5] 44)).heap.size (wr.alloc (.cells #[.string x.f0, .int .i64 x.f1, .int .i64 x.f2, .slice A3 x.f3.length c3, .slice A4 x.f4.length c4, .slice A5 x.f5.length c5] 44)) w') := ⟨by
   have hti : (l.take i).length = i := by rw [List.length_take]; omega
   have hcf := kk_ _ A c (l.take i) _ _ (Kd.C_take (Kd.C_below HR.out HB0.out) (by omega)) (by rw [hti]; have := HC.out; omega) (no_ wr.heap.size x.f0 _ (ba_ HK0.out 0)); rw [hb2, hti] at hcf
   exact hcf⟩
  have H3 : Az (∀ W, Calls Tryz.prog 42 #[.int .i64 x.f1, .int .i64 (-1), .int .i64 ((i : Int) - 1)] W fun e w' => e = .returned (.bool b3) ∧ Below W.heap.size W w') := ⟨by rw [← hb3]; exact we_ _ _ _⟩; have H4 : Az (∀ W, Calls Tryz.prog 42 #[.int .i64 x.f2, .int .i64 0, .int .i64 3] W fun e w' => e = .returned (.bool b4) ∧ Below W.heap.size W w') := ⟨by rw [← hb4]; exact we_ _ _ _⟩; have H7 : Az (∀ W, Below w.heap.size w W → Calls Tryz.prog 43 #[.slice A3 x.f3.length c3, .func (.func 44) #[] #[]] W fun e w' => e = .returned (.bool b7) ∧ Below W.heap.size W w') := ⟨by rw [← hb7]; exact fun W hB => us_ A3 c3 x.f3 W (Kd.C_below G3.out hB) L3.out⟩; have H8 : Az (∀ W, Below w.heap.size w W → Calls Tryz.prog 45 #[.slice A5 x.f5.length c5, .func (.func 46) #[] #[]] W fun e w' => e = .returned (.bool b8) ∧ Below W.heap.size W w') := ⟨by rw [← hb8]; exact fun W hB => ss_ A5 c5 x.f5 W (Kd.C_below G5.out hB) L5.out⟩; have H9 : Az (∀ W, Below w.heap.size w W → Calls Tryz.prog 48 #[.slice A l.length c, .int .i64 i] W fun e w' => ∃ v : Value, e = .returned v ∧ Kd.N k56 56 w' W.heap.size (fun _ => True) v RS ∧ Below W.heap.size W w') := ⟨by rw [← hRS]; exact fun W hB => ij_ A c l i W (Kd.C_below HR.out hB) HC.out hil (by omega) (fun x hx => (HOK.out x hx).2)⟩; have HB10 := aM_ hb10; clear hb1 hb2 hb3 hb4 hb7 hb8 hb10 hRS HOX; obtain ⟨okv, hokv⟩ : ∃ okv, wn_ l i x = okv := ⟨_, rfl⟩; rw [hokv] at HB HE1; clear hokv; subst hA
  have hcase : (b1 = false ∧ okv = false) ∨ (b1 = true ∧ b2 = true ∧ okv = false) ∨ (b1 = true ∧ b2 = false ∧ b3 = false ∧ okv = false) ∨ (b1 = true ∧ b2 = false ∧ b3 = true ∧ b4 = false ∧ okv = false) ∨ (b1 = true ∧ b2 = false ∧ b3 = true ∧ b4 = true ∧ b5 = true ∧ okv = false) ∨ (b1 = true ∧ b2 = false ∧ b3 = true ∧ b4 = true ∧ b5 = false ∧ b6 = true ∧ okv = false) ∨ (b1 = true ∧ b2 = false ∧ b3 = true ∧ b4 = true ∧ b5 = false ∧ b6 = false ∧ b7 = false ∧ okv = false) ∨ (b1 = true ∧ b2 = false ∧ b3 = true ∧ b4 = true ∧ b5 = false ∧ b6 = false ∧ b7 = true ∧ b8 = false ∧ okv = false) ∨ (b1 = true ∧ b2 = false ∧ b3 = true ∧ b4 = true ∧ b5 = false ∧ b6 = false ∧ b7 = true ∧ b8 = true ∧ b9 = true ∧ okv = false) ∨ (b1 = true ∧ b2 = false ∧ b3 = true ∧ b4 = true ∧ b5 = false ∧ b6 = false ∧ b7 = true ∧ b8 = true ∧ b9 = false ∧ b10 = false ∧ okv = false) ∨ (b1 = true ∧ b2 = false ∧ b3 = true ∧ b4 = true ∧ b5 = false ∧ b6 = false ∧ b7 = true ∧ b8 = true ∧ b9 = false ∧ b10 = true ∧ okv = true) := by
   have h := HB.out; clear HB10 hb5 hb6 hb9 hb5' hb6' hb9' H1 H2 H3 H4 H7 H8 H9 HE1; subst h
   cases b1 <;> cases b2 <;> cases b3 <;> cases b4 <;> try (simp; done)
   all_goals (cases b5 <;> cases b6 <;> cases b7 <;> cases b8 <;> cases b9 <;> cases b10 <;> simp)
  clear HB
  rcases hcase with ⟨rfl, rfl⟩ | ⟨rfl, rfl, rfl⟩ | ⟨rfl, rfl, rfl, rfl⟩ | ⟨rfl, rfl, rfl, rfl, rfl⟩ | ⟨rfl, rfl, rfl, rfl, rfl, rfl⟩ | ⟨rfl, rfl, rfl, rfl, rfl, rfl, rfl⟩ | ⟨rfl, rfl, rfl, rfl, rfl, rfl, rfl, rfl⟩ | ⟨rfl, rfl, rfl, rfl, rfl, rfl, rfl, rfl, rfl⟩ | ⟨rfl, rfl, rfl, rfl, rfl, rfl, rfl, rfl, rfl, rfl⟩ | ⟨rfl, rfl, rfl, rfl, rfl, rfl, rfl, rfl, rfl, rfl, rfl⟩ | ⟨rfl, rfl, rfl, rfl, rfl, rfl, rfl, rfl, rfl, rfl, rfl⟩
  all_goals
   first | (have HG : Az (r = false) := ⟨HE1.out⟩) | (have HG : Az (r = re_ l (l.length - (i + 1)) (i + 1)) := ⟨HE1.out⟩)
   clear HE1
   go_wp2_with fail
   generalize wr.alloc (.cells #[.string x.f0, .int .i64 x.f1, .int .i64 x.f2, .slice A3 x.f3.length c3, .slice A4 x.f4.length c4, .slice A5 x.f5.length c5] 44) = W0 at *; generalize wr.heap.size = g at *; clear h0 h1 h2 h3 h4 h5; refine H2.out.mono ?_; rintro e w1 ⟨rfl, hB⟩; have HK1 := aM_ (oa_ HK0.out hB); have HB1 : Az (Below w.heap.size w w1) := ⟨fa_ HB0.out hB⟩; have hc1_0 : w1.cell? ⟨g, 0, none⟩ = some (.string x.f0) := (ba_ HK1.out 0).trans rfl; have hc1_1 : w1.cell? ⟨g, 1, none⟩ = some (.int .i64 x.f1) := (ba_ HK1.out 1).trans rfl; have hc1_2 : w1.cell? ⟨g, 2, none⟩ = some (.int .i64 x.f2) := (ba_ HK1.out 2).trans rfl; have hc1_3 : w1.cell? ⟨g, 3, none⟩ = some (.slice A3 x.f3.length c3) := (ba_ HK1.out 3).trans rfl; have hc1_4 : w1.cell? ⟨g, 4, none⟩ = some (.slice A4 x.f4.length c4) := (ba_ HK1.out 4).trans rfl; have hc1_5 : w1.cell? ⟨g, 5, none⟩ = some (.slice A5 x.f5.length c5) := (ba_ HK1.out 5).trans rfl; clear hB H2
   go_wp2_with (first | (go_at_call 41; with_reducible refine (H1.out _).mono ?_; rintro e w2 ⟨rfl, hB⟩; have HK2 := aM_ (oa_ HK1.out hB); have HB2 : Az (Below w.heap.size w w2) := ⟨fa_ HB1.out hB⟩; clear hB; clear hc1_0; clear hc1_1; clear hc1_2; clear hc1_3; clear hc1_4; clear hc1_5; have hc2_0 : w2.cell? ⟨g, 0, none⟩ = some (.string x.f0) := (ba_ HK2.out 0).trans rfl; have hc2_1 : w2.cell? ⟨g, 1, none⟩ = some (.int .i64 x.f1) := (ba_ HK2.out 1).trans rfl; have hc2_2 : w2.cell? ⟨g, 2, none⟩ = some (.int .i64 x.f2) := (ba_ HK2.out 2).trans rfl; have hc2_3 : w2.cell? ⟨g, 3, none⟩ = some (.slice A3 x.f3.length c3) := (ba_ HK2.out 3).trans rfl; have hc2_4 : w2.cell? ⟨g, 4, none⟩ = some (.slice A4 x.f4.length c4) := (ba_ HK2.out 4).trans rfl; have hc2_5 : w2.cell? ⟨g, 5, none⟩ = some (.slice A5 x.f5.length c5) := (ba_ HK2.out 5).trans rfl) | (go_at_call 42; with_reducible refine (H3.out _).mono ?_; rintro e w3 ⟨rfl, hB⟩; have HK3 := aM_ (oa_ HK2.out hB); have HB3 : Az (Below w.heap.size w w3) := ⟨fa_ HB2.out hB⟩; clear hB; clear hc2_0; clear hc2_1; clear hc2_2; clear hc2_3; clear hc2_4; clear hc2_5; have hc3_0 : w3.cell? ⟨g, 0, none⟩ = some (.string x.f0) := (ba_ HK3.out 0).trans rfl; have hc3_1 : w3.cell? ⟨g, 1, none⟩ = some (.int .i64 x.f1) := (ba_ HK3.out 1).trans rfl; have hc3_2 : w3.cell? ⟨g, 2, none⟩ = some (.int .i64 x.f2) := (ba_ HK3.out 2).trans rfl; have hc3_3 : w3.cell? ⟨g, 3, none⟩ = some (.slice A3 x.f3.length c3) := (ba_ HK3.out 3).trans rfl; have hc3_4 : w3.cell? ⟨g, 4, none⟩ = some (.slice A4 x.f4.length c4) := (ba_ HK3.out 4).trans rfl; have hc3_5 : w3.cell? ⟨g, 5, none⟩ = some (.slice A5 x.f5.length c5) := (ba_ HK3.out 5).trans rfl) | (go_at_call 42; with_reducible refine (H4.out _).mono ?_; rintro e w4 ⟨rfl, hB⟩; have HK4 := aM_ (oa_ HK3.out hB); have HB4 : Az (Below w.heap.size w w4) := ⟨fa_ HB3.out hB⟩; clear hB; clear hc3_0; clear hc3_1; clear hc3_2; clear hc3_3; clear hc3_4; clear hc3_5; have hc4_0 : w4.cell? ⟨g, 0, none⟩ = some (.string x.f0) := (ba_ HK4.out 0).trans rfl; have hc4_1 : w4.cell? ⟨g, 1, none⟩ = some (.int .i64 x.f1) := (ba_ HK4.out 1).trans rfl; have hc4_2 : w4.cell? ⟨g, 2, none⟩ = some (.int .i64 x.f2) := (ba_ HK4.out 2).trans rfl; have hc4_3 : w4.cell? ⟨g, 3, none⟩ = some (.slice A3 x.f3.length c3) := (ba_ HK4.out 3).trans rfl; have hc4_4 : w4.cell? ⟨g, 4, none⟩ = some (.slice A4 x.f4.length c4) := (ba_ HK4.out 4).trans rfl; have hc4_5 : w4.cell? ⟨g, 5, none⟩ = some (.slice A5 x.f5.length c5) := (ba_ HK4.out 5).trans rfl) | (go_at_call 43; with_reducible refine (H7.out _ HB4.out).mono ?_; rintro e w5 ⟨rfl, hB⟩; have HK5 := aM_ (oa_ HK4.out hB); have HB5 : Az (Below w.heap.size w w5) := ⟨fa_ HB4.out hB⟩; clear hB; clear hc4_0; clear hc4_1; clear hc4_2; clear hc4_3; clear hc4_4; clear hc4_5; have hc5_0 : w5.cell? ⟨g, 0, none⟩ = some (.string x.f0) := (ba_ HK5.out 0).trans rfl; have hc5_1 : w5.cell? ⟨g, 1, none⟩ = some (.int .i64 x.f1) := (ba_ HK5.out 1).trans rfl; have hc5_2 : w5.cell? ⟨g, 2, none⟩ = some (.int .i64 x.f2) := (ba_ HK5.out 2).trans rfl; have hc5_3 : w5.cell? ⟨g, 3, none⟩ = some (.slice A3 x.f3.length c3) := (ba_ HK5.out 3).trans rfl; have hc5_4 : w5.cell? ⟨g, 4, none⟩ = some (.slice A4 x.f4.length c4) := (ba_ HK5.out 4).trans rfl; have hc5_5 : w5.cell? ⟨g, 5, none⟩ = some (.slice A5 x.f5.length c5) := (ba_ HK5.out 5).trans rfl) | (go_at_call 45; with_reducible refine (H8.out _ HB5.out).mono ?_; rintro e w6 ⟨rfl, hB⟩; have HK6 := aM_ (oa_ HK5.out hB); have HB6 : Az (Below w.heap.size w w6) := ⟨fa_ HB5.out hB⟩; clear hB; clear hc5_0; clear hc5_1; clear hc5_2; clear hc5_3; clear hc5_4; clear hc5_5; have hc6_0 : w6.cell? ⟨g, 0, none⟩ = some (.string x.f0) := (ba_ HK6.out 0).trans rfl; have hc6_1 : w6.cell? ⟨g, 1, none⟩ = some (.int .i64 x.f1) := (ba_ HK6.out 1).trans rfl; have hc6_2 : w6.cell? ⟨g, 2, none⟩ = some (.int .i64 x.f2) := (ba_ HK6.out 2).trans rfl; have hc6_3 : w6.cell? ⟨g, 3, none⟩ = some (.slice A3 x.f3.length c3) := (ba_ HK6.out 3).trans rfl; have hc6_4 : w6.cell? ⟨g, 4, none⟩ = some (.slice A4 x.f4.length c4) := (ba_ HK6.out 4).trans rfl; have hc6_5 : w6.cell? ⟨g, 5, none⟩ = some (.slice A5 x.f5.length c5) := (ba_ HK6.out 5).trans rfl) | (go_at_call 48; with_reducible refine (H9.out _ HB6.out).mono ?_; rintro e w7 ⟨v7, rfl, hN7, hB⟩; have HK7 := aM_ (oa_ HK6.out hB); have HB7 : Az (Below w.heap.size w w7) := ⟨fa_ HB6.out hB⟩; obtain ⟨A7, c7, hs7⟩ := Kd.N_slice hN7; subst hs7; have hcw := ws_ A7 c7 RS w7 (Kd.N_reads' hN7).2.2 (Kd.N_reads' hN7).2.1; rw [HB10.out] at hcw; have HC7 := aM_ hcw; clear hB hN7 hcw; clear hc6_0; clear hc6_1; clear hc6_2; clear hc6_3; clear hc6_4; clear hc6_5) | (go_at_call 47; with_reducible refine (HC7.out).mono ?_; rintro e w8 ⟨rfl, hB⟩; have HK8 := aM_ (oa_ HK7.out hB); have HB8 : Az (Below w.heap.size w w8) := ⟨fa_ HB7.out hB⟩; clear hB))
   first
    | (go_ret; rw [HG.out]; first | exact ⟨rfl, HB8.out⟩ | exact ⟨rfl, HB7.out⟩ | exact ⟨rfl, HB6.out⟩ | exact ⟨rfl, HB5.out⟩ | exact ⟨rfl, HB4.out⟩ | exact ⟨rfl, HB3.out⟩ | exact ⟨rfl, HB2.out⟩ | exact ⟨rfl, HB1.out⟩)
    | skip
  go_roundg (l.length - (i + 1))
  case measure => omega
  case rel => exact ⟨i + 1, by omega, by omega, by go_num, HG, HB8⟩
 have he : i = l.length := by omega
 have hilz : decide ((i : Int) < (l.length : Int)) = false := by simp; omega
 have HG : Az (r = true) := ⟨by rw [HE.out, he, Nat.sub_self]; rfl⟩
 clear he
 go_wp2
 go_ret
 rw [HG.out]
 exact ⟨rfl, HW.out⟩
theorem Kd.R_of_room {α : Type} {d : Kd α} {e b : Nat} {ok : Nat → Prop} (w w0 : World) (hw : w0.heap.size = w.heap.size) (hb : b ≤ w.heap.size) (hok : ok w.heap.size) (cs : Array Value) (cap : Nat) (hcs : cs.size = cap * d.sz) (hcap : cap ≤ maxLen) : d.R e (w0.alloc (.cells cs e)) b ok (.slice (some ⟨w.heap.size, 0, none⟩) 0 cap) [] := by
 rw [← hw] at *
 exact ⟨fun k hk => by
  have : k = w0.heap.size := by simpa [Value.ownBlock] using hk.symm
  rw [this]; exact hok, [], ⟨by simp, .inr ⟨w0.heap.size, cap, cs, rfl, hb, ra_ w0 _, Nat.zero_le _, hcap, hcs, by simp⟩⟩, Reps.none _ _⟩
theorem Kd.S_of_none {α : Type} {d : Kd α} {e b : Nat} {ok : Nat → Prop} {w : World} {v : Value} (h : d.R e w b ok v []) : Kd.S d e w b ok v [] := by
 obtain ⟨h0, inner, ho, hr⟩ := h
 exact ⟨fun _ => 0, h0, inner, ho, hr.1, fun j p hj => by simp at hj⟩
theorem ps_ (n : Nat) (w : World) (hn : n ≤ 1000000) :
  Calls Tryz.prog 113 #[.slice none 0 0, .int .i64 n] w fun e w' => ∃ v, e = .returned v ∧ Kd.R k46 46 w' w.heap.size (fun k => w.heap.size ≤ k) v [] ∧ Below w.heap.size w w' := by
 have hHn := aM_ hn
 have hneg : decide ((n : Int) < 0) = false := decide_eq_false (by omega)
 have hw0 : wrap64 ((0 : Int) - 0) = 0 := by unfold wrap64; omega
 have hw1 : wrap64 ((n : Int) - 0) = (n : Int) := by rw [wrap64]; omega
 have hw2 : wrap64 (n : Int) = (n : Int) := by rw [wrap64]; omega
 by_cases h0 : n = 0
 ·subst h0
  clear hn
  go_enter Tryz.func113, Tryz.ntmps113
  go_wp2
  go_ret
  exact ⟨_, rfl, Kd.R_nil _ _ _ _ _, Below.refl _ _⟩
 have hpos : 0 < n := by omega
 have hpz : decide ((0 : Int) < (n : Int)) = true := decide_eq_true (by omega)
 have hpz' : decide (0 < n) = true := decide_eq_true hpos
 obtain ⟨i0, hi, hz0, hz1, hz2⟩ := info_parts info46
 have hrun := Lib.run_append_nil_zeros (P := Tryz.prog) w 40 3 40 46 i0 (.agg #[.string ⟨#[]⟩, .int .i64 0, .int .i64 0]) .i64 .i64 Tryz.underlying40 Tryz.underlying3 hi hz0 n hpos (by rw [hz1]; decide) (by omega) (by rw [hz2]; omega)
 have hge := grownCap_ge w n 0 46
 have hml := grownCap_le_maxLen w n 0 46 (by unfold maxLen; omega)
 have HSZ : Az ((Builtin.zeroCells (.agg #[.string ⟨#[]⟩, .int .i64 0, .int .i64 0] : Value).cells n ++ Builtin.zeroCells (.agg #[.string ⟨#[]⟩, .int .i64 0, .int .i64 0] : Value).cells (grownCap w n 0 46 - n)).size = grownCap w n 0 46 * (Kd.sz k46)) := ⟨by
  show _ = grownCap w n 0 46 * 3; simp only [Array.size_append, size_zeroCells]; show n * 3 + (grownCap w n 0 46 - n) * 3 = _; rw [← Nat.add_mul]
  congr 1
  omega⟩
 generalize Builtin.zeroCells (.agg #[.string ⟨#[]⟩, .int .i64 0, .int .i64 0] : Value).cells n ++ Builtin.zeroCells (.agg #[.string ⟨#[]⟩, .int .i64 0, .int .i64 0] : Value).cells (grownCap w n 0 46 - n) = cs at *
 generalize grownCap w n 0 46 = cap at *
 have HRUN := aM_ hrun
 have HML := aM_ hml
 have hcap : (0 : Int) ≤ (cap : Int) := by omega
 clear hrun hml hi hz0 hz1 hz2 hge hn h0
 go_enter Tryz.func113, Tryz.ntmps113
 go_wp2_with (at_builtin; go_loud (refine Lib.wpList_append_run _ rfl (.tmp 20) (.tmp 21) 40 3 rfl (.slice none 0 0) (.int .i64 (n : Int)) rfl (congrArg (Value.int .i64) hw2) _ _ HRUN.out ?_))
 go_ret
 exact ⟨_, rfl, Kd.R_of_room w w.drew rfl (Nat.le_refl _) (Nat.le_refl _) cs cap HSZ.out HML.out, aa_ (ga_ (Below.refl _ _)) _⟩
theorem os_ (n : Nat) (w : World) (hn : n ≤ 1000000) :
  Calls Tryz.prog 114 #[.slice none 0 0, .int .i64 n] w fun e w' => ∃ v, e = .returned v ∧ Kd.R k52 52 w' w.heap.size (fun k => w.heap.size ≤ k) v [] ∧ Below w.heap.size w w' := by
 have hHn := aM_ hn
 have hneg : decide ((n : Int) < 0) = false := decide_eq_false (by omega)
 have hw0 : wrap64 ((0 : Int) - 0) = 0 := by unfold wrap64; omega
 have hw1 : wrap64 ((n : Int) - 0) = (n : Int) := by rw [wrap64]; omega
 have hw2 : wrap64 (n : Int) = (n : Int) := by rw [wrap64]; omega
 by_cases h0 : n = 0
 ·subst h0
  clear hn
  go_enter Tryz.func114, Tryz.ntmps114
  go_wp2
  go_ret
  exact ⟨_, rfl, Kd.R_nil _ _ _ _ _, Below.refl _ _⟩
 have hpos : 0 < n := by omega
 have hpz : decide ((0 : Int) < (n : Int)) = true := decide_eq_true (by omega)
 have hpz' : decide (0 < n) = true := decide_eq_true hpos
 obtain ⟨i0, hi, hz0, hz1, hz2⟩ := info_parts info52
 have hrun := Lib.run_append_nil_zeros (P := Tryz.prog) w 42 3 42 52 i0 (.agg #[.int .i64 0, .slice none 0 0]) .i64 .i64 Tryz.underlying42 Tryz.underlying3 hi hz0 n hpos (by rw [hz1]; decide) (by omega) (by rw [hz2]; omega)
 have hge := grownCap_ge w n 0 52
 have hml := grownCap_le_maxLen w n 0 52 (by unfold maxLen; omega)
 have HSZ : Az ((Builtin.zeroCells (.agg #[.int .i64 0, .slice none 0 0] : Value).cells n ++ Builtin.zeroCells (.agg #[.int .i64 0, .slice none 0 0] : Value).cells (grownCap w n 0 52 - n)).size = grownCap w n 0 52 * (Kd.sz k52)) := ⟨by
  show _ = grownCap w n 0 52 * 2; simp only [Array.size_append, size_zeroCells]; show n * 2 + (grownCap w n 0 52 - n) * 2 = _; rw [← Nat.add_mul]
  congr 1
  omega⟩
 generalize Builtin.zeroCells (.agg #[.int .i64 0, .slice none 0 0] : Value).cells n ++ Builtin.zeroCells (.agg #[.int .i64 0, .slice none 0 0] : Value).cells (grownCap w n 0 52 - n) = cs at *
 generalize grownCap w n 0 52 = cap at *
 have HRUN := aM_ hrun
 have HML := aM_ hml
 have hcap : (0 : Int) ≤ (cap : Int) := by omega
 clear hrun hml hi hz0 hz1 hz2 hge hn h0
 go_enter Tryz.func114, Tryz.ntmps114
 go_wp2_with (at_builtin; go_loud (refine Lib.wpList_append_run _ rfl (.tmp 20) (.tmp 21) 42 3 rfl (.slice none 0 0) (.int .i64 (n : Int)) rfl (congrArg (Value.int .i64) hw2) _ _ HRUN.out ?_))
 go_ret
 exact ⟨_, rfl, Kd.R_of_room w w.drew rfl (Nat.le_refl _) (Nat.le_refl _) cs cap HSZ.out HML.out, aa_ (ga_ (Below.refl _ _)) _⟩
theorem ep_ (g : Nat) (A1 A2 : Option Addr) (c1 c2 : Nat) (l1 l2 : List S46) (w : World) (hg0 : w.cell? ⟨g, 0, none⟩ = some (.slice A1 l1.length c1)) (hg1 : w.cell? ⟨g, 1, none⟩ = some (.slice A2 l2.length c2)) (h1 : Kd.C k46 w A1 l1.length l1) (h2 : Kd.C k46 w A2 l2.length l2) (hn : l1.length + l2.length ≤ 1000000) :
  Calls Tryz.prog 61 #[.slice (some ⟨g, 0, none⟩) 2 2] w fun e w' => ∃ v, e = .returned v ∧ Kd.R k46 46 w' w.heap.size (fun k => w.heap.size ≤ k) v (l1 ++ l2) ∧ Below w.heap.size w w' := by
 have HN := aM_ hn
 have HC1 := aM_ h1
 have HC2 := aM_ h2
 have HG0 := aM_ hg0
 have HG1 := aM_ hg1
 have hw1 : wrap64 ((0 : Int) + (l1.length : Int)) = (l1.length : Int) := by rw [wrap64]; omega
 have hw1' : wrap64 (l1.length : Int) = (l1.length : Int) := by rw [wrap64]; omega
 have hw2 : wrap64 ((l1.length : Int) + (l2.length : Int)) = ((l1.length + l2.length : Nat) : Int) := by rw [wrap64]; omega
 have hn1 : decide ((l1.length : Int) < 0) = false := decide_eq_false (by omega)
 have hn2 : decide (((l1.length + l2.length : Nat) : Int) < 0) = false := decide_eq_false (by omega)
 clear hn h1 h2 hg0 hg1
 go_enter Tryz.func61, Tryz.ntmps61
 go_wp2
 go_loopg [11, 3] 2 (fun gg s11 s3 wr => ∃ i m : Nat, 2 - i ≤ gg ∧ s11 = .int .i64 i ∧ s3 = .int .i64 m ∧ ((i = 0 ∧ m = 0) ∨ (i = 1 ∧ m = l1.length) ∨ (i = 2 ∧ m = l1.length + l2.length)) ∧ Az (Below w.heap.size w wr))
 case atStart => exact ⟨0, 0, by omega, rfl, rfl, .inl ⟨rfl, rfl⟩, ⟨Below.refl _ _⟩⟩
 obtain ⟨i, m, hgg, rfl, rfl, hcs, HW⟩ := hrel
 rcases hcs with ⟨rfl, rfl⟩ | ⟨rfl, rfl⟩ | ⟨rfl, rfl⟩
 ·have r0 := ha_ HW.out HG0.out
  go_wp2
  go_roundg 1
  case measure => omega
  case rel => exact ⟨1, l1.length, by omega, by go_num, by first | rfl | (simp [hw1]; done) | go_num, .inr (.inl ⟨rfl, rfl⟩), HW⟩
 ·have r1 := ha_ HW.out HG1.out
  go_wp2
  go_roundg 0
  case measure => omega
  case rel => exact ⟨2, l1.length + l2.length, by omega, by go_num, by first | rfl | (simp [hw2]; done) | go_num, .inr (.inr ⟨rfl, rfl⟩), HW⟩
 have HGR := aM_ (ps_ (l1.length + l2.length) wr HN.out)
 clear hn1 hn2 hw1 hw1' hw2
 go_wp2_with fail
 refine HGR.out.mono ?_
 rintro e w2 ⟨v, rfl, hR, hB⟩
 have HR0 := aM_ (Kd.R_mono (ok' := fun k => w.heap.size ≤ k) (Kd.R_lower hR HW.out.size) (fun k hk => Nat.le_trans HW.out.size hk))
 have HW2 : Az (Below w.heap.size w w2) := ⟨fa_ HW.out hB⟩
 clear hR hB HGR
 go_wp2
 go_loopg [27, 6] 2 (fun gg s27 s6 wr => ∃ (i : Nat) (xs : List S46), 2 - i ≤ gg ∧ s27 = .int .i64 i ∧ ((i = 0 ∧ xs = []) ∨ (i = 1 ∧ xs = l1) ∨ (i = 2 ∧ xs = l1 ++ l2)) ∧ Az (Kd.R k46 46 wr w.heap.size (fun k => w.heap.size ≤ k) s6 xs) ∧ Az (Below w.heap.size w wr))
 case atStart => exact ⟨0, [], by omega, rfl, .inl ⟨rfl, rfl⟩, HR0, HW2⟩
 clear HR0 HW2
 obtain ⟨i, xs, hgg, rfl, hcs, HR, HW⟩ := hrel
 obtain ⟨A6, c6, hs6⟩ := Kd.R_slice HR.out
 subst hs6
 rcases hcs with ⟨rfl, rfl⟩ | ⟨rfl, rfl⟩ | ⟨rfl, rfl⟩
 ·have r0 := ha_ HW.out HG0.out
  have HCC := aM_ (Kd.C_below HC1.out HW.out)
  go_wp2_with (at_builtin; go_loud (refine Kd.R_append_rows k46 (w0 := w) w.heap.size rfl (.tmp 31) (.tmp 32) 40 46 (.agg #[.string ⟨#[]⟩, .int .i64 0, .int .i64 0]) 32 rfl Tryz.underlying40 (by kernel_rfl) rfl (by show 0 < 3; decide) (by decide) (.slice A6 0 c6) [] l1 A1 l1.length c1 (fun k => w.heap.size ≤ k) (fun _ => False) rfl rfl HR.out HCC.out (fun _ _ h => h) (fun _ h => h.elim) (fun k hk => Nat.le_trans HW.out.size hk) HW.out HW.out.size (by have := HN.out; simp; omega) ?_); intro v1 w1 ho hb hg hat)
  have ho' : Kd.R k46 46 w1 w.heap.size (fun k => w.heap.size ≤ k) v1 l1 := ho; have HR1 := aM_ ho'; have HW1 := aM_ hb; clear ho ho' hb hg hat HR HCC
  go_wp2
  go_roundg 1
  case measure => omega
  case rel => exact ⟨1, l1, by omega, by go_num, .inr (.inl ⟨rfl, rfl⟩), HR1, HW1⟩
 ·have r1 := ha_ HW.out HG1.out
  have HCC := aM_ (Kd.C_below HC2.out HW.out)
  go_wp2_with (at_builtin; go_loud (refine Kd.R_append_rows k46 (w0 := w) w.heap.size rfl (.tmp 31) (.tmp 32) 40 46 (.agg #[.string ⟨#[]⟩, .int .i64 0, .int .i64 0]) 32 rfl Tryz.underlying40 (by kernel_rfl) rfl (by show 0 < 3; decide) (by decide) (.slice A6 xs.length c6) xs l2 A2 l2.length c2 (fun k => w.heap.size ≤ k) (fun _ => False) rfl rfl HR.out HCC.out (fun _ _ h => h) (fun _ h => h.elim) (fun k hk => Nat.le_trans HW.out.size hk) HW.out HW.out.size (by have := HN.out; omega) ?_); intro v1 w1 ho hb hg hat)
  have HR1 := aM_ ho; have HW1 := aM_ hb; clear ho hb hg hat HR HCC
  go_wp2
  go_roundg 0
  case measure => omega
  case rel => exact ⟨2, xs ++ l2, by omega, by go_num, .inr (.inr ⟨rfl, rfl⟩), HR1, HW1⟩
 go_wp2
 go_ret
 exact ⟨_, rfl, HR.out, HW.out⟩
def yi_ (l : List S44) : Prop := ∀ x ∈ l, x.f4 = [] ∧ x.f5 = []
def dh_ (l : List S44) : Nat → Int → List S46 → List S46
 | 0, _, out => out
 | n + 1, a, out => if jb_ a 0 ((l.length : Int) - 1) = true then dh_ l n (td_ l a) ((ya_ l a).f3 ++ out) else out
def lexP (l : List S44) (i : Nat) : List S46 := dh_ l (i + 1) i []
theorem pf_ {l : List S44} (h : yi_ l) : ∀ (n : Nat) (a : Int), gd_ l n a [] = []
 | 0, _ => rfl
 | n + 1, a => by
  rw [gd_]
  split
  ·rename_i hw
   have hr2 : 0 ≤ a ∧ a ≤ (l.length : Int) - 1 := by
    unfold jb_ at hw
    simpa using hw
   obtain ⟨k, rfl⟩ : ∃ k : Nat, a = (k : Int) := ⟨a.toNat, by omega⟩; have hk : k < l.length := by omega
   have hy : ya_ l (k : Int) = l[k] := by
    show l.getD (k : Int).toNat _ = _; rw [Int.toNat_natCast, List.getD_eq_getElem?_getD, List.getElem?_eq_getElem hk]; rfl
   rw [hy, (h _ (List.getElem_mem hk)).1, List.nil_append]; exact pf_ h n _
  rfl
def hitL (id : BA) (y : S44) : Bool := y.f0.toList == id.toList
end Go.Proofs.YtiocgaekoeekgaaGreat.P
end
section
namespace Go.Proofs.YtiocgaekoeekgaaGreat.P
open Go.RowKit YtiocgaekoeekgaaGreatW.PrintWords YtiocgaekoeekgaaGreatW.PrintLast YtiocgaekoeekgaaGreatW.PrintMore
attribute [local go_sem] vb_ tb_ jc_ ic_ lb_ kb_ ub_ sb_   
set_option linter.unusedVariables false
set_option linter.unusedSimpArgs false
def okLocsB (l : List S44) : Bool := l.all fun x => decide (x.f0.size ≤ 1000000000000) && decide (x.f4.length ≤ 1000000)
theorem mu_ {l : List S44} (h : okLocsB l = true) : wo_ l := by
 intro x hx
 have := List.all_eq_true.1 h x hx
 simpa using this
theorem ys_ : cd_ [] = true := by
 rw [gh_]
 exact ⟨by simp, rfl, fun x hx => eq_ _ id (fun r hr => by cases hr) x hx⟩
noncomputable def locPl (l : List S44) (i : Nat) (x : S44) : Bool :=
 idP x.f0 && (!((l.take i).any fun y => y.f0.toList == x.f0.toList) && (jb_ x.f1 (-1) ((i : Int) - 1) && (jb_ x.f2 0 3 && (!decide (30 < x.f3.length) && (!decide (20 < x.f5.length) && (x.f3.all ie_ && (x.f5.all cf_ && !decide (60 < x.f4.length))))))))
noncomputable def kj_ (l : List S44) : Nat → Nat → Bool
 | 0, _ => true
 | n + 1, i => if locPl l i (ya_ l (i : Int)) = true then kj_ l n (i + 1) else false
noncomputable def it_ (l : List S44) : Bool := if 10 < l.length then false else kj_ l l.length 0
def plainB (l : List S44) : Bool := l.all fun x => x.f4.isEmpty && x.f5.isEmpty
theorem gu_ {l : List S44} (h : plainB l = true) : yi_ l := by
 intro x hx
 have := List.all_eq_true.1 h x hx
 simp only [Bool.and_eq_true, List.isEmpty_iff] at this
 exact this
theorem tk_ {l : List S44} (h : yi_ l) : ∀ n i : Nat, kj_ l n i = re_ l n i
 | 0, _ => rfl
 | n + 1, i => by
  have hr : me_ l i = [] := pf_ h _ _
  have hl : wn_ l i (ya_ l (i : Int)) = locPl l i (ya_ l (i : Int)) := by
   unfold wn_ locPl; rw [hr, ys_, Bool.and_true]
  rw [kj_, re_, hl, tk_ h n (i + 1)]
theorem mr_ {l : List S44} (h : yi_ l) : it_ l = bf_ l := by
 unfold it_ bf_
 rw [tk_ h]
noncomputable def r5_num.l0 : Nat → List Int → Int → Int → Option (List Int)
 | 0, _, _, _ => none
 | k + 1, x0, x1, x5 => if x5 < 8 then (if 0 ≤ (IntKind.u64.wrap (wrap64 (56 - (wrap64 (8 * x5))))) then (if x0.length < 140737488355328 then (r5_num.l0 k (x0 ++ [(shr .i64 x1 (IntKind.u64.wrap (wrap64 (56 - (wrap64 (8 * x5)))))) % 256]) x1 (wrap64 (x5 + 1))) else (none)) else (none)) else (some x0)
noncomputable def r5_num.f (k : Nat) (l0 : List Int) (a1 : Int) : Option (List Int) := r5_num.l0 k l0 a1 0
theorem r5_num.mono_l : ∀ k, (∀ y0 y1 y2, LeO (r5_num.l0 k y0 y1 y2) (r5_num.l0 (k + 1) y0 y1 y2))
 | 0 => fun _ _ _ r h => by simp [r5_num.l0] at h
 | k + 1 => by
  have ih0 := r5_num.mono_l k; intro y0 y1 y2; unfold r5_num.l0
  repeat' first
  | (with_reducible exact ih0 _ _ _)
  | (with_reducible exact LeO.refl _)
  | (with_reducible exact LeO.none _)
  | (with_reducible refine LeO.ite ?_ ?_)
  | (with_reducible refine LeO.bind ?_ (fun _ => ?_))
  | exact ih0 _ _ _
  | exact LeO.none _
  | refine LeO.ite ?_ ?_
  | refine LeO.bind ?_ (fun _ => ?_)
theorem r5_num.mono : ∀ a0 a1 k, LeO (r5_num.f k a0 a1) (r5_num.f (k + 1) a0 a1) := by
 intro a0 a1 k
 have ih0 := r5_num.mono_l k
 unfold r5_num.f
 repeat' first
   | (with_reducible exact ih0 _ _ _)
   | (with_reducible exact LeO.refl _)
   | (with_reducible exact LeO.none _)
   | (with_reducible refine LeO.ite ?_ ?_)
   | (with_reducible refine LeO.bind ?_ (fun _ => ?_))
   | exact ih0 _ _ _
   | exact LeO.none _
   | refine LeO.ite ?_ ?_
   | refine LeO.bind ?_ (fun _ => ?_)
theorem r5_num.calls (k : Nat) (P0_ : Nat → Prop) (u9000_ : Value) (l0 : List Int) (a1 : Int) (r : List Int) (w0 w : World) (hB : Below w0.heap.size w0 w) (ho0 : Kd.R (Kd.int .u8) 5 w w0.heap.size P0_ u9000_ l0) (h : r5_num.f k l0 a1 = some r) :
  Calls Tryz.prog 49 #[u9000_, .int .i64 a1] w fun e w' => ∃ v0_ : Value, e = .returned (v0_) ∧ Kd.R (Kd.int .u8) 5 w' w0.heap.size (fun k_ => (P0_ k_ ∨ w.heap.size ≤ k_)) v0_ r ∧ Below w0.heap.size w0 w' ∧ Kept w w' (fun k_ => P0_ k_) := by
 have HO0 := aM_ (show Kd.R (Kd.int .u8) 5 w w0.heap.size (fun k_ => (P0_ k_ ∨ w.heap.size ≤ k_)) u9000_ l0 from Kd.R_mono ho0 (fun k_ hk => (.inl hk)))
 have HK := aM_ (Kept.refl w (fun k_ => P0_ k_))
 have HW0 := aM_ hB.size
 have HB := aM_ hB
 clear hB
 have H : (r5_num.l0 k l0 a1 0) = some r := h
 clear h
 have H' := aM_ H
 clear H
 go_enter Tryz.func49, Tryz.ntmps49
 go_wp2
 go_loopg [0, 5] k (fun kq v0 v5 w' => ∃ (x0_1 : List Int) (x5_1 : Int), v5 = .int .i64 x5_1 ∧ Az (r5_num.l0 kq x0_1 a1 x5_1 = some r) ∧ Az (kq ≤ k) ∧ Az (Kd.R (Kd.int .u8) 5 w' w0.heap.size (fun k_ => (P0_ k_ ∨ w.heap.size ≤ k_)) v0 x0_1) ∧ Az (Kept w w' (fun k_ => P0_ k_)) ∧ Az (Below w0.heap.size w0 w'))
 case atStart => exact ⟨(l0), (0), (by first | rfl | (simp; done) | (simp [*]; done)), H', ⟨Nat.le_refl _⟩, ⟨by (with_reducible repeat (first | apply Kd.R_alloc | apply Kd.R_drewN | apply Kd.R_drew)); exact HO0.out⟩, ⟨by repeat (first | (with_reducible first | exact HK.out | apply Kept.alloc | apply Kept.drewN | apply Kept.drew) | exact HK.out)⟩, ⟨by repeat (first | (with_reducible first | exact HB.out | apply aa_ | apply ca_ | apply ga_) | exact HB.out)⟩⟩
 clear H'
 obtain ⟨x0_1, x5_1, rfl, HA, HK1, HO_0, HK, HB⟩ := hrel
 cases gk with
 | zero => exact absurd HA.out (by simp [r5_num.l0])
 | succ k1 =>
  have H := HA.out; clear HA; simp only [r5_num.l0] at H
  by_cases c3 : x5_1 < 8
  ·rw [if_pos c3] at H
   have c3b0 : decide (x5_1 < 8) = true := decide_eq_true c3; clear c3; obtain ⟨ji4, hji4⟩ : ∃ j_ : Int, (IntKind.u64.wrap (wrap64 (56 - (wrap64 (8 * x5_1))))) = j_ := ⟨_, rfl⟩; replace H : (if 0 ≤ (ji4) then (if x0_1.length < 140737488355328 then (r5_num.l0 k1 (x0_1 ++ [(shr .i64 a1 (ji4)) % 256]) a1 (wrap64 (x5_1 + 1))) else (none)) else (none)) = some r := by first | (rw [hji4] at H; exact H) | (simp only [hji4] at H ⊢; exact H)
   by_cases c5 : 0 ≤ (ji4)
   ·rw [if_pos c5] at H
    have c5b0 := eq_true c5; have c5b1 : decide (0 ≤ (ji4)) = true := decide_eq_true c5; clear c5; obtain ⟨ji6, hji6⟩ : ∃ j_ : Int, (shr .i64 a1 (ji4)) = j_ := ⟨_, rfl⟩; replace H : (if x0_1.length < 140737488355328 then (r5_num.l0 k1 (x0_1 ++ [(ji6) % 256]) a1 (wrap64 (x5_1 + 1))) else (none)) = some r := by first | (rw [hji6] at H; exact H) | (simp only [hji6] at H ⊢; exact H)
    have hji6_ : (a1 / 2 ^ min (ji4).toNat 64) = ji6 := hji6; have hji6z : (ji4) ≤ 64 → (a1 / 2 ^ (ji4).toNat) = ji6 := bu_ hji6
    by_cases c7 : x0_1.length < 140737488355328
    ·rw [if_pos c7] at H
     have LMc7 := aM_ c7; clear c7; obtain ⟨y359, hy359⟩ : ∃ y_ : List Int, y_ = (x0_1 ++ [(ji6) % 256]) := ⟨_, rfl⟩; replace H : (r5_num.l0 k1 y359 a1 (wrap64 (x5_1 + 1))) = some r := by first | (rw [hy359]; with_reducible exact H) | (have H2_ := (Option.bind_some _ _).symm.trans H; rw [hy359]; with_reducible exact H2_) | (have H2_ := (Option.bind_some _ _).symm.trans H; with_reducible exact H2_) | with_reducible exact H | (rw [hy359]; exact H) | exact H
     have Ny359 := aM_ hy359; clear hy359; have H' := aM_ H; clear H
     go_wp2_with (first | ((with_reducible refine eh_ (b := .append) (xs := #[.tmp 10, .tmp 18]) rfl ?_); at_builtin; refine Kd.R_append (Kd.int .u8) (w0 := w0) w0.heap.size rfl (.tmp 10) (.tmp 18) 28 5 (.int .u8 0) 1 rfl Tryz.underlying28 zn_ rfl (by decide) (by omega) u0 x0_1 ((ji6) % 256) [.int .u8 ((ji6) % 256)] (fun k_ => (P0_ k_ ∨ w.heap.size ≤ k_)) (fun _ => False) rfl rfl ?aP (fun _ hk => hk.elim) ?aF ?aO ?aB ?aS ?aL ?_; (case aP => exact rfl); (case aB => exact (by repeat (first | (with_reducible first | exact HB.out | apply aa_ | apply ca_ | apply ga_) | exact HB.out))); (case aF => exact (fun k_ hk => (.inr (Nat.le_trans (by first | exact HK.out.1 | exact (show Kept w _ (fun k_ => P0_ k_) from by repeat (first | (with_reducible first | exact HK.out | apply Kept.alloc | apply Kept.drewN | apply Kept.drew) | exact HK.out)).1) hk)))); (case aO => exact (by (with_reducible repeat (first | apply Kd.R_alloc | apply Kd.R_drewN | apply Kd.R_drew)); exact HO_0.out)); (case aS => exact (qa_ (by repeat (first | (with_reducible first | exact HB.out | apply aa_ | apply ca_ | apply ga_) | exact HB.out)))); (case aL => have := LMc7.out; omega); intro v360 w8 ho hb hg hat; rw [← Ny359.out] at ho; have n0_ := aM_ (hb); have n1_ := aM_ (Kept.of_grown (S := (fun k_ => P0_ k_)) hg (by repeat (first | (with_reducible first | exact HK.out | apply Kept.alloc | apply Kept.drewN | apply Kept.drew) | exact HK.out)) (fun k_ e_ => (HO_0.out.1 k_ e_))); have n2_ := aM_ (ho); clear HB; clear HK; clear HO_0; have HB := n0_; have HK := n1_; have HO361 := n2_; clear n0_ n1_ n2_; clear ho hb hg hat))
     go_roundg k1
     case measure => have := HK1.out; omega
     case rel => exact ⟨(y359), (wrap64 (x5_1 + 1)), (by first | rfl | (simp; done) | (simp [*]; done)), H', ⟨by have := HK1.out; omega⟩, ⟨by (with_reducible repeat (first | apply Kd.R_alloc | apply Kd.R_drewN | apply Kd.R_drew)); exact HO361.out⟩, ⟨by repeat (first | (with_reducible first | exact HK.out | apply Kept.alloc | apply Kept.drewN | apply Kept.drew) | exact HK.out)⟩, ⟨by repeat (first | (with_reducible first | exact HB.out | apply aa_ | apply ca_ | apply ga_) | exact HB.out)⟩⟩
    rw [if_neg c7] at H; exact absurd H (by simp)
   rw [if_neg c5] at H; exact absurd H (by simp)
  rw [if_neg c3] at H; have c3b0 : decide (x5_1 < 8) = false := decide_eq_false c3; clear c3; obtain rfl := Option.some.inj H
  go_wp2
  go_ret
  exact ⟨_, by first | rfl | (simp [eb_, db_] <;> rfl) | (simp [*, eb_, db_] <;> rfl), by (with_reducible repeat (first | apply Kd.R_alloc | apply Kd.R_drewN | apply Kd.R_drew)); exact HO_0.out, by repeat (first | (with_reducible first | exact HB.out | apply aa_ | apply ca_ | apply ga_) | exact HB.out), by repeat (first | (with_reducible first | exact HK.out | apply Kept.alloc | apply Kept.drewN | apply Kept.drew) | exact HK.out)⟩
noncomputable def r5_ints.l0 : Nat → List Int → List Int → Int → Option (List Int)
 | 0, _, _, _ => none
 | k + 1, x0, x1, x5 => if x5 < (x1.length : Int) then (if 0 ≤ x5 then ((r5_num.f k x0 (rd x1 x5)).bind fun t366 => (r5_ints.l0 k t366 x1 (wrap64 (x5 + 1)))) else (none)) else (some x0)
noncomputable def r5_ints.f (k : Nat) (l0 : List Int) (l1 : List Int) : Option (List Int) := (r5_num.f k l0 (l1.length : Int)).bind fun t362 => (r5_ints.l0 k t362 l1 0)
theorem r5_ints.calls (k : Nat) (P0_ : Nat → Prop) (u9000_ : Value) (l0 : List Int) (A1 : Option Addr) (c1 : Nat) (l1 : List Int) (r : List Int) (w0 w : World) (hB : Below w0.heap.size w0 w) (ho0 : Kd.R (Kd.int .u8) 5 w w0.heap.size P0_ u9000_ l0) (hr1 : ∀ W_, Kept w W_ (fun k_ => P0_ k_) → Kd.C (Kd.int .i64) W_ A1 l1.length l1) (hc1 : l1.length ≤ c1) (h : r5_ints.f k l0 l1 = some r) :
  Calls Tryz.prog 104 #[u9000_, .slice A1 l1.length c1] w fun e w' => ∃ v0_ : Value, e = .returned (v0_) ∧ Kd.R (Kd.int .u8) 5 w' w0.heap.size (fun k_ => (P0_ k_ ∨ w.heap.size ≤ k_)) v0_ r ∧ Below w0.heap.size w0 w' ∧ Kept w w' (fun k_ => P0_ k_) := by
 have HO0 := aM_ (show Kd.R (Kd.int .u8) 5 w w0.heap.size (fun k_ => (P0_ k_ ∨ w.heap.size ≤ k_)) u9000_ l0 from Kd.R_mono ho0 (fun k_ hk => (.inl hk)))
 have HR1 := aM_ hr1
 have HC1 := aM_ hc1
 clear hr1 hc1
 have HK := aM_ (Kept.refl w (fun k_ => P0_ k_))
 have HW0 := aM_ hB.size
 have HB := aM_ hB
 clear hB
 have H : ((r5_num.f k l0 (l1.length : Int)).bind fun t362 => (r5_ints.l0 k t362 l1 0)) = some r := h
 clear h
 replace H := Option.bind_eq_some_iff.mp H
 obtain ⟨t362, A30, H⟩ := H
 replace H : (r5_ints.l0 k t362 l1 0) = some r := H
 have A3 := aM_ A30
 clear A30
 have H' := aM_ H
 clear H
 obtain ⟨Ao4, co4, eo4⟩ := Kd.R_slice HO0.out
 subst eo4
 go_enter Tryz.func104, Tryz.ntmps104
 go_wp2_with (first | ((with_reducible refine mb_ (f := 49) rfl ?_); refine kd_ (some 9) rfl rfl Tryz.func49 (by kernel_rfl) rfl #[.slice Ao4 l0.length co4, .int .i64 (l1.length : Int)] rfl (by (try simp only [List.map_toArray, List.map_cons, List.map_nil]); first | done | rfl | (simp only [List.length_drop, List.length_take]; rfl)) ?_; (with_reducible refine (r5_num.calls k (fun k_ => some k_ = (.slice Ao4 l0.length co4 : Value).ownBlock) (.slice Ao4 l0.length co4) l0 (l1.length : Int) t362 w0 _ ?side1 ?side2 A3.out).mono ?_); (case side1 => repeat (first | (with_reducible first | exact HB.out | apply aa_ | apply ca_ | apply ga_) | exact HB.out)); (case side2 => exact Kd.R_tight rfl HO0.out); rintro e w5 ⟨v363, rfl, ho0, hb, hkp⟩; refine ⟨_, rfl, ?_⟩; have n0_ := aM_ (Kd.R_mono (ok' := fun k_ => (P0_ k_ ∨ w.heap.size ≤ k_)) ho0 (fun k_ hk_ => Or.elim hk_ (fun hs_ => (HO0.out.1 k_ (hs_).symm)) (fun hn_ => (.inr (Nat.le_trans (by first | exact HK.out.1 | exact (show Kept w _ (fun k_ => P0_ k_) from by repeat (first | (with_reducible first | exact HK.out | apply Kept.alloc | apply Kept.drewN | apply Kept.drew) | exact HK.out)).1) hn_))))); have n1_ := aM_ (Kept.then_ (S := (fun k_ => P0_ k_)) (by repeat (first | (with_reducible first | exact HK.out | apply Kept.alloc | apply Kept.drewN | apply Kept.drew) | exact HK.out)) hkp (fun k_ hs_ => (fun e_ => (HO0.out.1 k_ e_.symm)) hs_)); have n2_ := aM_ (hb); clear HK; clear HB; clear HO0; have HO364 := n0_; have HK := n1_; have HB := n2_; clear n0_ n1_ n2_; (try clear hb); (try clear hkp); (try clear ho0)))
 go_loopg [0, 5] k (fun kq v0 v5 w' => ∃ (x0_1 : List Int) (x5_1 : Int), v5 = .int .i64 x5_1 ∧ Az (r5_ints.l0 kq x0_1 l1 x5_1 = some r) ∧ Az (kq ≤ k) ∧ Az (Kd.R (Kd.int .u8) 5 w' w0.heap.size (fun k_ => (P0_ k_ ∨ w.heap.size ≤ k_)) v0 x0_1) ∧ Az (Kept w w' (fun k_ => P0_ k_)) ∧ Az (Below w0.heap.size w0 w'))
 case atStart => exact ⟨(t362), (0), (by first | rfl | (simp; done) | (simp [*]; done)), H', ⟨Nat.le_refl _⟩, ⟨by (with_reducible repeat (first | apply Kd.R_alloc | apply Kd.R_drewN | apply Kd.R_drew)); exact HO364.out⟩, ⟨by repeat (first | (with_reducible first | exact HK.out | apply Kept.alloc | apply Kept.drewN | apply Kept.drew) | exact HK.out)⟩, ⟨by repeat (first | (with_reducible first | exact HB.out | apply aa_ | apply ca_ | apply ga_) | exact HB.out)⟩⟩
 clear H'
 obtain ⟨x0_1, x5_1, rfl, HA, HK1, HO_0, HK, HB⟩ := hrel
 cases gk with
 | zero => exact absurd HA.out (by simp [r5_ints.l0])
 | succ k1 =>
  have H := HA.out; clear HA; simp only [r5_ints.l0] at H
  by_cases c6 : x5_1 < (l1.length : Int)
  ·rw [if_pos c6] at H
   have c6b0 : decide (x5_1 < (l1.length : Int)) = true := decide_eq_true c6; clear c6
   by_cases c7 : 0 ≤ x5_1
   ·rw [if_pos c7] at H
    have c7b0 : decide (0 ≤ x5_1) = true := decide_eq_true c7; clear c7; replace H := Option.bind_eq_some_iff.mp H; obtain ⟨t366, A80, H⟩ := H; replace H : (r5_ints.l0 k1 t366 l1 (wrap64 (x5_1 + 1))) = some r := H; have A8 := aM_ A80; clear A80; have H' := aM_ H; clear H; have p365 : 0 ≤ (x5_1 : Int) := of_decide_eq_true (by first | (with_reducible assumption) | assumption); have q365 : x5_1 < (l1.length : Int) := of_decide_eq_true (by first | (with_reducible assumption) | assumption); obtain ⟨ad365, e365, hx365_0⟩ := Kd.at_int (Kd.C_kept_now HR1.out HK.out) x5_1 p365 q365
    cases e365
    replace p365 := eq_true p365; replace q365 := eq_true q365; obtain ⟨Ao9, co9, eo9⟩ := Kd.R_slice HO_0.out; subst eo9
    go_wp2_with (first | ((with_reducible refine mb_ (f := 49) rfl ?_); refine kd_ (some 21) rfl rfl Tryz.func49 (by kernel_rfl) rfl #[.slice Ao9 x0_1.length co9, .int .i64 (rd l1 x5_1)] rfl (by (try simp only [List.map_toArray, List.map_cons, List.map_nil]); first | done | rfl | (simp only [List.length_drop, List.length_take]; rfl)) ?_; (with_reducible refine (r5_num.calls k1 (fun k_ => some k_ = (.slice Ao9 x0_1.length co9 : Value).ownBlock) (.slice Ao9 x0_1.length co9) x0_1 (rd l1 x5_1) t366 w0 _ ?side1 ?side2 A8.out).mono ?_); (case side1 => repeat (first | (with_reducible first | exact HB.out | apply aa_ | apply ca_ | apply ga_) | exact HB.out)); (case side2 => exact Kd.R_tight rfl HO_0.out); rintro e w10 ⟨v367, rfl, ho0, hb, hkp⟩; refine ⟨_, rfl, ?_⟩; have n0_ := aM_ (Kd.R_mono (ok' := fun k_ => (P0_ k_ ∨ w.heap.size ≤ k_)) ho0 (fun k_ hk_ => Or.elim hk_ (fun hs_ => (HO_0.out.1 k_ (hs_).symm)) (fun hn_ => (.inr (Nat.le_trans (by first | exact HK.out.1 | exact (show Kept w _ (fun k_ => P0_ k_) from by repeat (first | (with_reducible first | exact HK.out | apply Kept.alloc | apply Kept.drewN | apply Kept.drew) | exact HK.out)).1) hn_))))); have n1_ := aM_ (Kept.then_ (S := (fun k_ => P0_ k_)) (by repeat (first | (with_reducible first | exact HK.out | apply Kept.alloc | apply Kept.drewN | apply Kept.drew) | exact HK.out)) hkp (fun k_ hs_ => (fun e_ => (HO_0.out.1 k_ e_.symm)) hs_)); have n2_ := aM_ (hb); clear HK; clear HB; clear HO_0; have HO368 := n0_; have HK := n1_; have HB := n2_; clear n0_ n1_ n2_; (try clear hb); (try clear hkp); (try clear ho0)))
    go_roundg k1
    case measure => have := HK1.out; omega
    case rel => exact ⟨(t366), (wrap64 (x5_1 + 1)), (by first | rfl | (simp; done) | (simp [*]; done)), H', ⟨by have := HK1.out; omega⟩, ⟨by (with_reducible repeat (first | apply Kd.R_alloc | apply Kd.R_drewN | apply Kd.R_drew)); exact HO368.out⟩, ⟨by repeat (first | (with_reducible first | exact HK.out | apply Kept.alloc | apply Kept.drewN | apply Kept.drew) | exact HK.out)⟩, ⟨by repeat (first | (with_reducible first | exact HB.out | apply aa_ | apply ca_ | apply ga_) | exact HB.out)⟩⟩
   rw [if_neg c7] at H; exact absurd H (by simp)
  rw [if_neg c6] at H; have c6b0 : decide (x5_1 < (l1.length : Int)) = false := decide_eq_false c6; clear c6; obtain rfl := Option.some.inj H
  go_wp2
  go_ret
  exact ⟨_, by first | rfl | (simp [eb_, db_] <;> rfl) | (simp [*, eb_, db_] <;> rfl), by (with_reducible repeat (first | apply Kd.R_alloc | apply Kd.R_drewN | apply Kd.R_drew)); exact HO_0.out, by repeat (first | (with_reducible first | exact HB.out | apply aa_ | apply ca_ | apply ga_) | exact HB.out), by repeat (first | (with_reducible first | exact HK.out | apply Kept.alloc | apply Kept.drewN | apply Kept.drew) | exact HK.out)⟩
end Go.Proofs.YtiocgaekoeekgaaGreat.P
end
section
namespace Go.Proofs.YtiocgaekoeekgaaGreat.P
open Go.RowKit YtiocgaekoeekgaaGreatW.PrintWords YtiocgaekoeekgaaGreatW.PrintLast YtiocgaekoeekgaaGreatW.PrintMore
attribute [local go_sem] vb_ tb_ jc_ ic_ lb_ kb_ ub_ sb_   
set_option linter.unusedVariables false
set_option linter.unusedSimpArgs false
attribute [local go_sem] Oper.semAt_some
structure WrAt (w0 : World) (g : Nat) (bs : List Int) (W : World) : Prop where
 row : ∃ A c, W.heap[g]? = some (.cells #[.slice A bs.length c] 76 (0, 0)) ∧ Kd.R (Kd.int .u8) 5 W w0.heap.size (fun k => k ≠ g) (.slice A bs.length c) bs
 below : Below w0.heap.size w0 W
 ge : w0.heap.size ≤ g
def Kept8 (g : Nat) (W W' : World) : Prop := ∀ k o, W.heap[k]? = some o → k ≠ g → (∀ cs z, o ≠ .cells cs 5 z) → W'.heap[k]? = some o
theorem Kept8.refl (g : Nat) (W : World) : Kept8 g W W := fun _ _ h _ _ => h
theorem Kept8.trans {g : Nat} {W W1 W2 : World} (h1 : Kept8 g W W1) (h2 : Kept8 g W1 W2) : Kept8 g W W2 := fun k o h hk ho => h2 k o (h1 k o h hk ho) hk ho
theorem Kept8.below {g : Nat} {W W1 : World} (hb : Below W.heap.size W W1) : Kept8 g W W1 := fun k o h _ _ => oa_ h hb
theorem Kept8.grown {g : Nat} {W W1 : World} {b : Nat} {ok : Nat → Prop} {v : Value} {bs : List Int} (hR : Kd.R (Kd.int .u8) 5 W b ok v bs) (hg : W.grownBy W1 v.ownBlock) : Kept8 g W W1 := fun k o h _ ho => (hg.block k (za_ h) (fun e => by
 obtain ⟨cs, hc⟩ := Kd.R_typed hR k e.symm
 rw [h] at hc
 injection hc with hc
 exact ho cs (0, 0) hc)).trans h
theorem Kept8.set {g : Nat} (W : World) (i : Nat) (v : Value) : Kept8 g W (W.setCell ⟨g, i, none⟩ v) := fun k o h hk _ => (heap_setCell_other W ⟨g, i, none⟩ k v hk).trans h
theorem WrAt.grow {w0 : World} {g : Nat} {bs : List Int} {W W1 : World} (h : WrAt w0 g bs W) (hb : Below W.heap.size W W1) : WrAt w0 g bs W1 := by
 obtain ⟨A, c, h1, h2⟩ := h.row
 exact ⟨⟨A, c, oa_ h1 hb, Kd.R_below h2 hb⟩, fa_ h.below hb, h.ge⟩
def rf_ (n k : Int) : Int := IntKind.u8.wrap (n / 2 ^ k.toNat)
def num8 (n : Int) : List Int := (List.range 8).map fun (j : Nat) => rf_ n (56 - 8 * (j : Int))
def fb_ (l : List Int) : List Int := l.flatMap num8
theorem rb_ (n : Int) : (num8 n).length = 8 := by simp [num8]
theorem ua_ : ∀ l : List Int, (fb_ l).length = 8 * l.length
 | [] => rfl
 | n :: l => by
  show (num8 n ++ fb_ l).length = _; rw [List.length_append, rb_, ua_ l, List.length_cons]; omega
theorem nu_ (n : Int) (j : Nat) (hj : j < 8) : (num8 n).take (j + 1) = (num8 n).take j ++ [rf_ n (56 - 8 * (j : Int))] := by
 rw [List.take_succ_eq_append_getElem (by rw [rb_]; exact hj)]
 simp [num8]
theorem yr_ (l : List Int) (i : Nat) (hi : i < l.length) : fb_ (l.take (i + 1)) = fb_ (l.take i) ++ num8 l[i] := by
 unfold fb_
 rw [List.take_succ_eq_append_getElem hi, List.flatMap_append]
 simp
section
variable {ops : Array Oper} {o : Oper} {a : Act} {Q : Exit → Act → World → Prop} {Kc : Act → World → Prop}
theorem tl_ {W : World} (hw : Region.wanted o (yielded ops a.tmps) = true) (hN : o.dst = none) (t : TypeId) (p x : Operand) (ho : o.op = .store t p x) {g i : Nat} {e : TypeId} {cur : Array Value} (u : Value) (haddr : a.eval p = .pointer (some ⟨g, i, none⟩)) (hx : a.eval x = u)
  (hu : u.cells.toList = [u]) (h1 : u.oneCell' = true) (ht : (Tryz.prog.info? t).map (·.size) = some 1) (hblk : W.heap[g]? = some (.cells cur e (0, 0))) (hi : i < cur.size) (h : Kc (a.put none undef) (W.setCell ⟨g, i, none⟩ u)) : if Region.wanted o (yielded ops a.tmps) = true then Oper.wp Tryz.prog o a W Kc Q else Kc (a.put none undef) W := by
 have hrun := ii_ t u [u] hblk hu ht (P := Tryz.prog) (Nat.succ_le_of_lt hi) (by intro q hq; rw [List.mem_singleton] at hq; rw [hq]; exact h1)
 rw [if_pos hw]
 unfold Oper.wp execOp
 simp only [ho, haddr, hx, Sem.run_bind, Sem.run_pure, Result.andThen_ok, hrun]
 show Kc (a.put o.dst undef) _
 rw [hN]
 exact h
end
theorem pj_ (w0 : World) (g : Nat) (bs : List Int) (A1 : Option Addr) (c1 : Nat) (l : List Int) (W : World) (h : WrAt w0 g bs W) (hr1 : ∀ W', Kept8 g W W' → Below w0.heap.size w0 W' → Kd.C (Kd.int .i64) W' A1 l.length l) (hc1 : l.length ≤ c1) (hlen : bs.length + 8 * l.length ≤ 1000000000000) :
  Calls Tryz.prog 74 #[.pointer (some ⟨g, 0, none⟩), .slice A1 l.length c1] W fun e W' => e = .returned (.tuple #[]) ∧ WrAt w0 g (bs ++ fb_ l) W' ∧ Kept8 g W W' := by
 have HR1 := aM_ hr1
 have HH : Az (WrAt w0 g (bs ++ fb_ (l.take 0)) W) := ⟨by rw [List.take_zero]; show WrAt w0 g (bs ++ []) W; rw [List.append_nil]; exact h⟩
 have HK0 := aM_ (Kept8.refl g W)
 clear hr1 h
 go_enter Tryz.func74, Tryz.ntmps74
 go_wp2
 go_loopg [9] l.length (fun gg s9 wr => ∃ i : Nat, i ≤ l.length ∧ l.length - i ≤ gg ∧ s9 = .int .i64 i ∧ Az (WrAt w0 g (bs ++ fb_ (l.take i)) wr) ∧ Az (Kept8 g W wr))
 case atStart => exact ⟨0, by omega, by omega, rfl, HH, HK0⟩
 clear HH HK0
 obtain ⟨i, hi, hgg, rfl, HW, HK⟩ := hrel
 by_cases hil : i < l.length
 ·have hilz : (i : Int) < (l.length : Int) := by omega
  obtain ⟨ad1, hA1, hcv⟩ := Kd.at_int (HR1.out wr HK.out HW.out.below) (i : Int) (by omega) hilz; subst hA1; rw [Int.toNat_natCast] at hcv
  have hn : rd l (i : Int) = l[i] := by
   show l.getD (i : Int).toNat 0 = _; rw [Int.toNat_natCast, List.getD_eq_getElem?_getD, List.getElem?_eq_getElem hil]; rfl
  have HSN := aM_ (yr_ l i hil); rw [← hn] at HSN; have hl0 : (bs ++ fb_ (l.take i)).length = bs.length + 8 * i := by rw [List.length_append, ua_, List.length_take, Nat.min_eq_left hi]
  generalize rd l (i : Int) = n at *; have HL0 := aM_ hl0; obtain ⟨B, hB⟩ : ∃ B, B = bs ++ fb_ (l.take i) := ⟨_, rfl⟩; rw [← hB] at HW HL0; have HBB := aM_ hB; have HW0 : Az (WrAt w0 g (B ++ (num8 n).take 0) wr) := ⟨by rw [List.take_zero, List.append_nil]; exact HW.out⟩; clear hn hl0 hB HW
  go_wp2
  clear hcv
  go_loopg [6] 8 (fun gg2 s6 wr => ∃ j : Nat, j ≤ 8 ∧ 8 - j ≤ gg2 ∧ s6 = .int .i64 (56 - 8 * (j : Int)) ∧ Az (WrAt w0 g (B ++ (num8 n).take j) wr) ∧ Az (Kept8 g W wr))
  case atStart => exact ⟨0, by omega, by omega, rfl, HW0, HK⟩
  clear HW0 HK; obtain ⟨j, hj, hgg2, rfl, HW, HK⟩ := hrel
  by_cases hjl : j < 8
  ·have HSJ := aM_ (nu_ n j hjl)
   have hlb : (B ++ (num8 n).take j).length = bs.length + 8 * i + j := by rw [List.length_append, HL0.out, List.length_take, rb_]; omega
   obtain ⟨D, hD⟩ : ∃ D, D = B ++ (num8 n).take j := ⟨_, rfl⟩; rw [← hD] at HW hlb; have HDD := aM_ hD; have hbl : (D.length + 1) * 1 ≤ 140737488355328 := by omega
   have HGE := aM_ HW.out.ge; obtain ⟨A, c, hblk, hrow⟩ := HW.out.row; have hge : (0 : Int) ≤ 56 - 8 * (j : Int) := by omega
   have r0 : wr.drew.cell? ⟨g, 0, none⟩ = some (.slice A D.length c) := ba_ hblk 0; have HRW : Az (Kd.R (Kd.int .u8) 5 wr.drew w0.heap.size (fun k => k ≠ g) (.slice A D.length c) D) := ⟨Kd.R_drew hrow⟩; have HBW : Az (Below w0.heap.size w0 wr.drew) := ⟨ga_ HW.out.below⟩; have HGL : Az (g < wr.drew.heap.size) := ⟨za_ hblk⟩; have HKW : Az (Kept8 g W wr.drew) := ⟨HK.out.trans (Kept8.below (ga_ (Below.refl _ _)))⟩; have HBK : Az (wr.drew.heap[g]? = some (.cells #[.slice A D.length c] 76 (0, 0))) := ⟨hblk⟩; clear hD HW HK hblk hrow hlb
   go_wp2
   refine wd_ (n := 14) (S := fun w' => w'.cell? ⟨g, 0, none⟩ = some (.slice A D.length c) ∧ w'.cell? ⟨g, 0, none⟩ = some (.slice A D.length c)) (ds := [13]) (f_ 14 0) (by kernel_rfl) rfl rfl ⟨r0, r0⟩ (fun hHeld => ?_); clear r0; generalize wr.drew = W5 at *; refine pU_ 0 17 ?_ (f_ 14 1) rfl rfl (by kernel_rfl) (fun _ _ _ h => h) (by rfl) ?_ ?_ ?_ ?_; rotate_left
   ·intro w'
    go_simp; try with_reducible rfl
   rotate_left
   ·simp only [Act.put, s1_, s2_, s3_, ia_, ja_]
    rfl
   refine pU_ 1 18 ?_ (f_ 14 2) rfl rfl (by kernel_rfl) (fun _ _ _ h => h) (by rfl) ?_ ?_ ?_ ?_; rotate_left
   ·intro w'
    go_simp; try with_reducible rfl
   rotate_left
   ·simp only [Act.put, s1_, s2_, s3_, ia_, ja_]
    rfl
   refine pU_ 2 19 ?_ (f_ 14 3) rfl rfl (by kernel_rfl) (fun _ _ _ h => h) (by rfl) ?_ ?_ ?_ ?_; rotate_left
   ·intro w'
    go_simp; try with_reducible rfl
   rotate_left
   ·simp only [Act.put, s1_, s2_, s3_, ia_, ja_]
    rfl
   refine pU_ 3 20 ?_ (f_ 14 4) rfl rfl (by kernel_rfl) (fun _ _ _ h => h) (by rfl) ?_ ?_ ?_ ?_; rotate_left
   ·intro w'
    go_simp; try with_reducible rfl
   rotate_left
   ·simp only [Act.put, s1_, s2_, s3_, ia_, ja_]
    rfl
   refine tA_ 4 21 ?_ (f_ 14 5) rfl rfl (by kernel_rfl) (fun _ _ _ h => h) (by rfl) ?_ hHeld ?_ ?_ ?_; rotate_left
   ·rintro w' ⟨s0, s1⟩
    go_simp; try with_reducible rfl
   rotate_left
   ·simp only [Act.put, s1_, s2_, s3_, ia_, ja_]
    rfl
   refine pU_ 5 22 ?_ (f_ 14 6) rfl rfl (by kernel_rfl) (fun _ _ _ h => h) (by rfl) ?_ ?_ ?_ ?_; rotate_left
   ·intro w'
    go_simp; try with_reducible rfl
   rotate_left
   ·simp only [Act.put, s1_, s2_, s3_, ia_, ja_]
    rfl
   refine pU_ 6 23 ?_ (f_ 14 7) rfl rfl (by kernel_rfl) (fun _ _ _ h => h) (by rfl) ?_ ?_ ?_ ?_; rotate_left
   ·intro w'
    go_simp; try with_reducible rfl
   rotate_left
   ·simp only [Act.put, s1_, s2_, s3_, ia_, ja_]
    rfl
   refine pU_ 7 24 ?_ (f_ 14 8) rfl rfl (by kernel_rfl) (fun _ _ _ h => h) (by rfl) ?_ ?_ ?_ ?_; rotate_left
   ·intro w'
    go_simp; try with_reducible rfl
   rotate_left
   ·simp only [Act.put, s1_, s2_, s3_, ia_, ja_]
    rfl
   refine pU_ 8 25 ?_ (f_ 14 9) rfl rfl (by kernel_rfl) (fun _ _ _ h => h) (by rfl) ?_ ?_ ?_ ?_; rotate_left
   ·intro w'
    go_simp; try with_reducible rfl
   rotate_left
   ·simp only [Act.put, s1_, s2_, s3_, ia_, ja_]
    rfl
   refine one_ (i := 9) (N := some 26) (f_ 14 10) rfl rfl (by kernel_rfl) (by decide) (fun K hK => ?_); refine hd_ (w1 := ?_) (v := ?_) (by rfl) rfl ?_ ?_; rotate_left 2
   ·go_simp
    constructor
    ·rfl
    rfl
   refine hK.out _ _ ⟨(World.cell?_alloc_lt _ _ _ (World.block_lt_of_cell? _ _ hHeld.1)).trans hHeld.1, (World.cell?_alloc_lt _ _ _ (World.block_lt_of_cell? _ _ hHeld.1)).trans hHeld.1⟩ (fun hHeld => ?_); clear hK K; refine wa_ (a' := ?_) ?_ ?_; rotate_left
   ·show Act.put _ (some 26) _ = _
    simp only [Act.put, s1_, s2_, s3_, ia_, ja_]; rfl
   refine one_ (i := 10) (N := some 27) (f_ 14 11) rfl rfl (by kernel_rfl) (by decide) (fun K hK => ?_); refine Kd.R_append_step (Kd.int .u8) (w0 := w0) (W := W5) w0.heap.size (by rfl) (.tmp 21) (.tmp 26) 28 5 (.int .u8 0) 1 rfl Tryz.underlying28 zn_ rfl (by decide) (by decide) (.slice A D.length c) D (rf_ n (56 - 8 * (j : Int))) [.int .u8 (rf_ n (56 - 8 * (j : Int)))] (fun k => k ≠ g) (fun _ => False) (by rfl) (by rfl) rfl (fun _ hk => hk.elim) (fun k hk => by have := HGL.out; omega) HRW.out HBW.out HBW.out.size hbl (fun v1 w1 hR1 hB1 hg1 _ => ?_); obtain ⟨A', c', hv1⟩ := Kd.R_slice hR1; subst hv1; have HR1' := aM_ hR1; have HB1 := aM_ hB1; have HBK1 := aM_ (gb_ HBK.out hg1 (fun e => HRW.out.1 _ e.symm rfl)); have HK1 := aM_ (HKW.out.trans (Kept8.grown HRW.out hg1)); clear hR1 hB1; refine hK.out _ _ ⟨ba_ HBK1.out 0, ba_ HBK1.out 0⟩ (fun hHeld => ?_); clear hg1; clear hK K; refine wa_ (a' := ?_) ?_ ?_; rotate_left
   ·show Act.put _ (some 27) _ = _
    simp only [Act.put, s1_, s2_, s3_, ia_, ja_]; rfl
   refine pU_ 11 28 ?_ (f_ 14 12) rfl rfl (by kernel_rfl) (fun _ _ _ h => h) (by rfl) ?_ ?_ ?_ ?_; rotate_left
   ·intro w'
    go_simp; try with_reducible rfl
   rotate_left
   ·simp only [Act.put, s1_, s2_, s3_, ia_, ja_]
    rfl
   refine pU_ 12 29 ?_ (f_ 14 13) rfl rfl (by kernel_rfl) (fun _ _ _ h => h) (by rfl) ?_ ?_ ?_ ?_; rotate_left
   ·intro w'
    go_simp; try with_reducible rfl
   rotate_left
   ·simp only [Act.put, s1_, s2_, s3_, ia_, ja_]
    rfl
   refine qg_ (i := 13) (N := none) (f_ 14 14) rfl rfl (by kernel_rfl) (by decide) (fun K hK => ?_); refine tl_ (by rfl) rfl 28 (.tmp 29) (.tmp 27) rfl (g := g) (i := 0) (.slice A' (D ++ [rf_ n (56 - 8 * (j : Int))]).length c') (by rfl) (by rfl) rfl rfl (by kernel_rfl) HBK1.out (by simp) ?_; refine hK.out _ _ ?_; clear hK K; refine je_ (by kernel_rfl) ?_
   have HW6 : Az (WrAt w0 g (B ++ (num8 n).take (j + 1)) (w1.setCell ⟨g, 0, none⟩ (.slice A' (D ++ [rf_ n (56 - 8 * (j : Int))]).length c'))) := ⟨by
    rw [HSJ.out, ← List.append_assoc, ← HDD.out]
    exact ⟨⟨A', c', by simpa using sa_ HBK1.out 0 (.slice A' (D ++ [rf_ n (56 - 8 * (j : Int))]).length c'), Kd.R_far HR1'.out (p := ⟨g, 0, none⟩) (fun k hk => hk) _⟩, HB1.out.setCell (p := ⟨g, 0, none⟩) HGE.out _, HGE.out⟩⟩
   have HK6 : Az (Kept8 g W (w1.setCell ⟨g, 0, none⟩ (.slice A' (D ++ [rf_ n (56 - 8 * (j : Int))]).length c'))) := ⟨HK1.out.trans (Kept8.set w1 0 _)⟩; generalize w1.setCell ⟨g, 0, none⟩ (.slice A' (D ++ [rf_ n (56 - 8 * (j : Int))]).length c') = W7 at *
   go_wp2
   go_roundg (8 - (j + 1))
   case measure => omega
   case rel => exact ⟨j + 1, by omega, by omega, by go_num, HW6, HK6⟩
  have he : j = 8 := by omega
  have hge : decide ((0 : Int) ≤ 56 - 8 * (j : Int)) = false := by simp; omega
  have hge2 : ¬ 8 * (j : Int) ≤ 56 := by omega
  have HW6 : Az (WrAt w0 g (bs ++ fb_ (l.take (i + 1))) wr) := ⟨by
   have h9 := HW.out; rw [he, List.take_of_length_le (by rw [rb_]; exact Nat.le_refl _), HBB.out, List.append_assoc, ← HSN.out] at h9
   exact h9⟩
  clear he
  go_wp2
  go_roundg (l.length - (i + 1))
  case measure => omega
  case rel => exact ⟨i + 1, by omega, by omega, by go_num, HW6, HK⟩
 have he : i = l.length := by omega
 have hilz : decide ((i : Int) < (l.length : Int)) = false := by simp; omega
 rw [he, List.take_length] at HW
 clear he
 go_wp2
 go_end0
 exact ⟨rfl, HW.out, HK.out⟩
theorem lit8_R {W : World} {base a : Nat} {xs : List Int} {ok : Nat → Prop} (h : W.heap[a]? = some (.cells (xs.map (Value.int .i64)).toArray 3 (0, 0))) (hb : base ≤ a) (hn : xs.length ≤ 1000000) (hok : ok a) : Kd.R (Kd.int .i64) 3 W base ok (.slice (some ⟨a, 0, none⟩) xs.length xs.length) xs := by
 have h1 : W.ownsRow base 3 1 (.slice (some ⟨a, 0, none⟩) xs.length xs.length) xs.length (xs.map (Value.int .i64)) :=
  ⟨by simp, .inr ⟨a, xs.length, _, rfl, hb, h, Nat.le_refl _, by simp [maxLen]; omega, by simp, by rw [List.take_of_length_le (by simp)]⟩⟩
 exact Kd.R_of_own (enc := Value.int .i64) (h1 := fun _ => rfl) (xs := xs) h1 (fun k hk => by
  have hk2 : a = k := by simpa [Value.ownBlock] using hk
  exact hk2 ▸ hok)
theorem uc_ (w0 : World) (g : Nat) (bs : List Int) (xs : List Int) (W : World) (h : WrAt w0 g bs W) (hx : xs.length ≤ 1000) (hlen : bs.length + 8 * xs.length ≤ 1000000000000) :
  Calls Tryz.prog 74 #[.pointer (some ⟨g, 0, none⟩), .slice (some ⟨W.heap.size, 0, none⟩) xs.length xs.length] (W.alloc (.cells (xs.map (Value.int .i64)).toArray 3)) fun e W' => e = .returned (.tuple #[]) ∧ WrAt w0 g (bs ++ fb_ xs) W' ∧ Kept8 g W W' := by
 obtain ⟨A, c, hb, _⟩ := h.row
 have hlt := za_ hb
 refine (pj_ w0 g bs (some ⟨W.heap.size, 0, none⟩) xs.length xs _ (h.grow (aa_ (Below.refl _ _) _)) (fun W' hk _ => ?_) (Nat.le_refl _) hlen).mono ?_
 ·have h1 := hk W.heap.size _ (ra_ W _) (by omega) (fun cs z e => by injection e with _ e; exact absurd e (by decide))
  exact (Kd.R_reads' (lit8_R (base := 0) (ok := fun _ => True) h1 (Nat.zero_le _) (by omega) trivial)).2.2
 rintro e W' ⟨rfl, h1, h2⟩
 exact ⟨rfl, h1, (Kept8.below (aa_ (Below.refl _ _) _)).trans h2⟩
def txt8 (s : BA) : List Int := fb_ [(s.size : Int)] ++ ud_ s
theorem cc_ (s : BA) : (txt8 s).length = 8 + s.size := by
 unfold txt8
 rw [List.length_append, ua_, zf_]
 rfl
theorem ti_ (w0 : World) (g : Nat) (bs : List Int) (s : BA) (W : World) (h : WrAt w0 g bs W) (hlen : bs.length + (8 + s.size) ≤ 1000000000000) :
  Calls Tryz.prog 75 #[.pointer (some ⟨g, 0, none⟩), .string s] W fun e W' => e = .returned (.tuple #[]) ∧ WrAt w0 g (bs ++ txt8 s) W' ∧ Kept8 g W W' := by
 have hnum := uc_ w0 g bs [(s.size : Int)] W h (by simp) (by simp; omega)
 have HN := aM_ hnum
 clear hnum h
 go_enter Tryz.func75, Tryz.ntmps75
 go_wp2_with fail
 refine HN.out.mono ?_
 rintro e w1 ⟨rfl, hW, hK⟩
 have HK := aM_ hK
 have HE : Az (bs ++ txt8 s = bs ++ fb_ [(s.size : Int)] ++ ud_ s) := ⟨by unfold txt8; rw [List.append_assoc]⟩
 have hl : (bs ++ fb_ [(s.size : Int)]).length = bs.length + 8 := by rw [List.length_append, ua_]; rfl
 generalize bs ++ fb_ [(s.size : Int)] = D at *
 obtain ⟨A, c, hblk, hrow⟩ := hW.row
 have HGE := aM_ hW.ge
 have r0 : w1.cell? ⟨g, 0, none⟩ = some (.slice A D.length c) := ba_ hblk 0
 have HRW := aM_ hrow
 have HBW := aM_ hW.below
 have HBK := aM_ hblk
 have hbl : D.length + s.size ≤ 140737488355328 := by omega
 clear hW hK hblk hrow HN hl
 go_wp2_with (at_builtin; go_loud (refine ek_ (w0 := w0) w0.heap.size rfl (.tmp 13) (.tmp 14) 28 9 5 rfl Tryz.underlying28 Tryz.underlying9 zn_ (.slice A D.length c) D s rfl rfl (Kd.own_of_R HRW.out) HBW.out HBW.out.size hbl ?_); intro v2 w2 ho2 hb2 hg2; have hR2 : Kd.R (Kd.int .u8) 5 w2 w0.heap.size (fun k => True) v2 (D ++ ud_ s) := Kd.R_of_own (enc := Value.int .u8) (h1 := fun _ => rfl) ho2 (fun _ _ => trivial); have hbk2 := gb_ HBK.out hg2 (fun e => HRW.out.1 _ e.symm rfl); have hR3 := Kd.R_mono (Kd.R_types hR2 hbk2 (by decide)) (fun k hk => hk.2); obtain ⟨A', c', hv2⟩ := Kd.R_slice hR3; subst hv2; generalize hD2 : D ++ ud_ s = D2 at *; clear hD2; have HR2 := aM_ hR3; have HB2 := aM_ hb2; have HBK2 := aM_ hbk2; have HK2 := aM_ (HK.out.trans (Kept8.grown HRW.out hg2)); have hc2 := ba_ hbk2 0; have hf2 := da_ hbk2 0; clear ho2 hb2 hg2 hR2 hR3 hbk2)
 have HW6 : Az (WrAt w0 g (bs ++ txt8 s) (w2.setCell ⟨g, 0, none⟩ (.slice A' D2.length c'))) := ⟨by
  rw [HE.out]
  exact ⟨⟨A', c', by simpa using sa_ HBK2.out 0 (.slice A' D2.length c'), Kd.R_far HR2.out (p := ⟨g, 0, none⟩) (fun k hk => hk) _⟩, HB2.out.setCell (p := ⟨g, 0, none⟩) HGE.out _, HGE.out⟩⟩
 have HK6 : Az (Kept8 g W (w2.setCell ⟨g, 0, none⟩ (.slice A' D2.length c'))) := ⟨HK2.out.trans (Kept8.set w2 0 _)⟩
 generalize w2.setCell ⟨g, 0, none⟩ (.slice A' D2.length c') = W7 at *
 go_wp2
 go_end0
 exact ⟨rfl, HW6.out, HK6.out⟩
theorem shift5 : ∀ j : Fin 8, IntKind.u64.wrap (wrap64 (56 - (wrap64 (8 * ((j : Nat) : Int))))) = 56 - 8 * ((j : Nat) : Int) := by decide +kernel
theorem byte5 (n : Int) (j : Nat) (hj : j < 8) : (shr .i64 n (56 - 8 * (j : Int))) % 256 = rf_ n (56 - 8 * (j : Int)) := by
 unfold shr rf_
 rw [IntKind.wrap_u8', Nat.min_eq_left (by show _ ≤ 64; omega)]
theorem num5_l0 (n : Int) : ∀ (m j : Nat) (x : List Int), j + m = 8 → x.length + m ≤ 1000000000000 → r5_num.l0 (m + 1) x n (j : Int) = some (x ++ (num8 n).drop j) := by
 intro m
 induction m with
 | zero =>
  intro j x hj hx
  rw [r5_num.l0, if_neg (by omega), List.drop_eq_nil_of_le (by rw [rb_]; omega), List.append_nil]
 | succ m ih =>
  intro j x hj hx; have hs := shift5 ⟨j, by omega⟩; simp only at hs; rw [r5_num.l0, if_pos (by omega), hs, if_pos (by omega), if_pos (by omega), byte5 n j (by omega), show wrap64 ((j : Int) + 1) = ((j + 1 : Nat) : Int) from by rw [wrap64]; omega, ih (j + 1) _ (by omega) (by rw [List.length_append]; simp; omega)]
  have hd : (num8 n).drop j = rf_ n (56 - 8 * (j : Int)) :: (num8 n).drop (j + 1) := by
   rw [List.drop_eq_getElem_cons (by rw [rb_]; omega)]
   congr 1
   simp [num8]
  rw [hd, List.append_assoc]; rfl
theorem zr_ (l : List Int) (n : Int) (hl : l.length + 8 ≤ 1000000000000) : r5_num.f 9 l n = some (l ++ num8 n) := num5_l0 n 8 0 l rfl hl
def Row5 (w0 : World) (v : Value) (bs : List Int) (W : World) : Prop := Kd.R (Kd.int .u8) 5 W w0.heap.size (fun _ => True) v bs ∧ Below w0.heap.size w0 W
def KeptT (W W' : World) : Prop := ∀ (g t : Nat) (cs : Array Value), 5 ≠ t → W.heap[g]? = some (.cells cs t (0, 0)) → W'.heap[g]? = some (.cells cs t (0, 0))
theorem KeptT.trans {W W1 W2 : World} (h1 : KeptT W W1) (h2 : KeptT W1 W2) : KeptT W W2 := fun g t cs ht h => h2 g t cs ht (h1 g t cs ht h)
theorem KeptT.below {W W1 : World} (hb : Below W.heap.size W W1) : KeptT W W1 := fun _ _ _ _ h => oa_ h hb
theorem ke_ (w0 : World) (v : Value) (bs : List Int) (n : Int) (W : World) (h : Row5 w0 v bs W) (hl : bs.length + 8 ≤ 1000000000000) :
  Calls Tryz.prog 49 #[v, .int .i64 n] W fun e W' => ∃ v', e = .returned v' ∧ Row5 w0 v' (bs ++ num8 n) W' ∧ KeptT W W' := by
 have h1 : Kd.R (Kd.int .u8) 5 W w0.heap.size (fun k => v.ownBlock = some k) v bs := ⟨fun k hk => hk, h.1.2.imp_ (fun _ _ hm => hm)⟩
 refine (r5_num.calls 9 _ v bs n _ w0 W h.2 h1 (zr_ bs n hl)).mono ?_
 rintro e W' ⟨v', rfl, hr, hb, hk⟩
 refine ⟨v', rfl, ⟨Kd.R_mono hr (fun _ _ => trivial), hb⟩, fun g t cs ht hg => ?_⟩
 exact (hk.2 g (za_ hg) (fun he => Kd.R_ne h.1 hg ht he.symm)).trans hg
theorem io_ (w0 : World) (v : Value) (bs : List Int) (s : BA) (W : World) (h : Row5 w0 v bs W) (hl : bs.length + (txt8 s).length ≤ 1000000000000) :
  Calls Tryz.prog 103 #[v, .string s] W fun e W' => ∃ v', e = .returned v' ∧ Row5 w0 v' (bs ++ txt8 s) W' ∧ KeptT W W' := by
 rw [cc_] at hl
 have HN := aM_ (ke_ w0 v bs s.size W h (by omega))
 have HL := aM_ hl
 have hkb := fun W => xp_ (P := Tryz.prog) 9 28 5 Tryz.underlying9 Tryz.underlying28 Tryz.underlying5 s W
 clear h hl
 go_enter Tryz.func103, Tryz.ntmps103
 go_wp2_with fail
 refine HN.out.mono ?_
 rintro e W1 ⟨v1, rfl, hr, hk⟩
 have HR := aM_ hr
 have HK := aM_ hk
 clear hr hk HN
 have hbb : Az (Below W1.heap.size W1 (Lib.bytesWorld W1 5 s)) := ⟨er_ (Below.refl _ _) (Nat.le_refl _) 5 s⟩
 have HC : Az (Kd.C (Kd.int .u8) (Lib.bytesWorld W1 5 s) (some ⟨W1.heap.size, 0, none⟩) s.size (ud_ s)) := ⟨Kd.C_of_reads (h1 := fun _ => rfl) (dr_ W1 5 s (by have := HL.out; omega))⟩
 have hkb1 := hkb W1
 clear hkb
 have hE : Az (bs ++ txt8 s = (bs ++ num8 s.size) ++ ud_ s) := ⟨by unfold txt8 fb_; simp⟩
 have HLL : Az ((bs ++ num8 (s.size : Int)).length + s.size ≤ 1000000000000) := ⟨by rw [List.length_append, rb_]; have := HL.out; omega⟩
 generalize bs ++ num8 (s.size : Int) = cs at *
 generalize grownCap W1 s.size 0 5 = cap at *
 generalize Lib.bytesWorld W1 5 s = W2 at *
 go_wp2_with (at_builtin; go_loud (refine Kd.R_append_row (Value.int .u8) 0 (h1 := fun _ => rfl) (w0 := w0) w0.heap.size rfl (.tmp 8) (.tmp 10) 28 5 (.int .u8 0) 1 rfl Tryz.underlying28 zn_ rfl (by decide) v1 cs (ud_ s) (some ⟨W1.heap.size, 0, none⟩) s.size cap (fun _ => True) rfl rfl (fun _ _ => trivial) (Kd.R_below HR.out.1 hbb.out) HC.out (fa_ HR.out.2 hbb.out) (fa_ HR.out.2 hbb.out).size (by have := HLL.out; omega) ?_); intro v3 W3 ho hb hg hat)
 have HO : Az (Row5 w0 v3 (cs ++ ud_ s) W3) := ⟨⟨ho, hb⟩⟩
 have HK3 : Az (KeptT W W3) := ⟨fun g t c0 ht hgg => gb_ (oa_ (HK.out g t c0 ht hgg) hbb.out) hg (Kd.R_ne (Kd.R_below HR.out.1 hbb.out) (oa_ (HK.out g t c0 ht hgg) hbb.out) ht)⟩
 clear ho hb hg hat
 go_wp2
 go_ret
 rw [hE.out]
 exact ⟨_, rfl, HO.out, HK3.out⟩
def xc_ (l : List Int) : List Int := fb_ [(l.length : Int)] ++ fb_ l
def ent8 (e : S46) : List Int := txt8 e.f0 ++ fb_ [e.f1, e.f2]
def fc_ (r : S56) : List Int := fb_ [r.f0] ++ xc_ r.f1 ++ fb_ [r.f2.f0] ++ xc_ r.f2.f1 ++ fb_ [r.f3]
def nc_ (p : S48) : List Int := fb_ [p.f0] ++ txt8 p.f1 ++ fb_ [p.f2, p.f3, p.f4]
theorem zb_ (l : List Int) : (xc_ l).length = 8 + 8 * l.length := by
 unfold xc_
 rw [List.length_append, ua_, ua_]
 rfl
theorem numC (w0 : World) (A1 : Option Addr) (l : List Int) (g : Nat) (W : World) (h : Kd.C (Kd.int .i64) w0 A1 l.length l) : ∀ W', Kept8 g W W' → Below w0.heap.size w0 W' → Kd.C (Kd.int .i64) W' A1 l.length l := fun _ _ hb => Kd.C_below h hb
theorem oi_ (w0 : World) (g : Nat) (bs : List Int) (A1 : Option Addr) (c1 : Nat) (l : List Int) (W : World) (h : WrAt w0 g bs W) (hr1 : Kd.C (Kd.int .i64) w0 A1 l.length l) (hc1 : l.length ≤ c1) (hlen : bs.length + (xc_ l).length ≤ 1000000000000) :
  Calls Tryz.prog 123 #[.pointer (some ⟨g, 0, none⟩), .slice A1 l.length c1] W fun e W' => e = .returned (.tuple #[]) ∧ WrAt w0 g (bs ++ xc_ l) W' ∧ Kept8 g W W' := by
 have hl0 : (xc_ l).length = 8 + 8 * l.length := by exact zb_ l
 rw [hl0] at hlen
 obtain ⟨D0, hD0⟩ : ∃ D, D = bs := ⟨_, rfl⟩
 have HE : Az (bs ++ xc_ l = D0 ++ fb_ [(l.length : Int)] ++ fb_ l) := ⟨by rw [hD0]; unfold xc_; simp only [List.append_assoc]⟩
 have hd0 : D0.length = bs.length := by rw [hD0]
 rw [← hD0] at h
 have HW0 := aM_ h
 have HK0 := aM_ (Kept8.refl g W)
 have HLN := aM_ hlen
 have HD0 := aM_ hd0
 clear h hl0 hD0 hlen hd0
 go_enter Tryz.func123, Tryz.ntmps123
 go_wp2_with fail
 have hnum := uc_ w0 g D0 [(l.length : Int)] W HW0.out (by simp) (by rw [HD0.out]; have := HLN.out; first | omega | (simp only [List.length_cons, List.length_nil, Nat.zero_add, Nat.reduceAdd]; omega))
 refine hnum.mono ?_
 clear hnum
 rintro e w1 ⟨rfl, hW, hK⟩
 have HD1 : Az ((D0 ++ fb_ [(l.length : Int)]).length = bs.length + 8 * 1) := ⟨by first | (rw [List.length_append, HD0.out]; simp [ua_, cc_, zb_]; done) | rw [List.length_append, HD0.out]⟩
 generalize D0 ++ fb_ [(l.length : Int)] = D1 at *
 have HW1 := aM_ hW
 have HK1 := aM_ (HK0.out.trans hK)
 clear hW hK HW0 HK0
 go_wp2_with fail
 refine (pj_ w0 g D1 A1 c1 l w1 HW1.out (numC w0 _ _ g _ hr1) hc1 (by rw [HD1.out]; have := HLN.out; first | omega | (simp only [List.length_cons, List.length_nil, Nat.zero_add, Nat.reduceAdd]; omega))).mono ?_
 rintro e w2 ⟨rfl, hW, hK⟩
 have HD2 : Az ((D1 ++ fb_ l).length = bs.length + 8 * 1 + 8 * l.length) := ⟨by first | (rw [List.length_append, HD1.out]; simp [ua_, cc_, zb_]; done) | rw [List.length_append, HD1.out]⟩
 generalize D1 ++ fb_ l = D2 at *
 have HW2 := aM_ hW
 have HK2 := aM_ (HK1.out.trans hK)
 clear hW hK HW1 HK1
 go_wp2
 go_end0
 exact ⟨rfl, by rw [HE.out]; exact HW2.out, HK2.out⟩
theorem vq_ (w0 : World) (g : Nat) (bs : List Int) (x : S46) (W : World) (h : WrAt w0 g bs W)  (hlen : bs.length + (ent8 x).length ≤ 1000000000000) :
  Calls Tryz.prog 77 #[.pointer (some ⟨g, 0, none⟩), .agg #[.string x.f0, .int .i64 x.f1, .int .i64 x.f2]] W fun e W' => e = .returned (.tuple #[]) ∧ WrAt w0 g (bs ++ ent8 x) W' ∧ Kept8 g W W' := by
 have hl0 : (ent8 x).length = 8 + x.f0.size + 16 := by unfold ent8; rw [List.length_append, cc_, ua_]; rfl
 rw [hl0] at hlen
 obtain ⟨D0, hD0⟩ : ∃ D, D = bs := ⟨_, rfl⟩
 have HE : Az (bs ++ ent8 x = D0 ++ txt8 x.f0 ++ fb_ [x.f1, x.f2]) := ⟨by rw [hD0]; unfold ent8; simp only [List.append_assoc]⟩
 have hd0 : D0.length = bs.length := by rw [hD0]
 rw [← hD0] at h
 have HB0 : Az ((W.alloc (.cells #[.string x.f0, .int .i64 x.f1, .int .i64 x.f2] 46)).heap[W.heap.size]? = some (.cells #[.string x.f0, .int .i64 x.f1, .int .i64 x.f2] 46 (0, 0))) := ⟨ra_ W _⟩
 have HW0 : Az (WrAt w0 g D0 (W.alloc (.cells #[.string x.f0, .int .i64 x.f1, .int .i64 x.f2] 46))) := ⟨h.grow (aa_ (Below.refl _ _) _)⟩
 have HK0 : Az (Kept8 g W (W.alloc (.cells #[.string x.f0, .int .i64 x.f1, .int .i64 x.f2] 46))) := ⟨Kept8.below (aa_ (Below.refl _ _) _)⟩
 have hgb : W.heap.size ≠ g := by obtain ⟨_, _, hb, _⟩ := h.row; have := za_ hb; omega
 have HGB := aM_ hgb
 clear hgb
 have HLN := aM_ hlen
 have HD0 := aM_ hd0
 clear h hl0 hD0 hlen hd0
 go_enter Tryz.func77, Tryz.ntmps77
 go_wp2_with fail
 refine (ti_ w0 g D0 x.f0 (W.alloc (.cells #[.string x.f0, .int .i64 x.f1, .int .i64 x.f2] 46)) HW0.out (by rw [HD0.out]; have := HLN.out; first | omega | (simp only [List.length_cons, List.length_nil, Nat.zero_add, Nat.reduceAdd]; omega))).mono ?_
 rintro e w1 ⟨rfl, hW, hK⟩
 have HD1 : Az ((D0 ++ txt8 x.f0).length = bs.length + (8 + x.f0.size)) := ⟨by first | (rw [List.length_append, HD0.out]; simp [ua_, cc_, zb_]; done) | rw [List.length_append, HD0.out]⟩
 generalize D0 ++ txt8 x.f0 = D1 at *
 have HW1 := aM_ hW
 have HK1 := aM_ (HK0.out.trans hK)
 have HB1 := aM_ (hK _ _ HB0.out HGB.out (fun cs z e => by injection e with _ e; exact absurd e (by decide)))
 clear hW hK HW0 HK0 HB0
 have hc1_0 := ba_ HB1.out 0
 have hc1_1 := ba_ HB1.out 1
 have hc1_2 := ba_ HB1.out 2
 go_wp2_with fail
 have hnum := uc_ w0 g D1 [x.f1, x.f2] w1 HW1.out (by simp) (by rw [HD1.out]; have := HLN.out; first | omega | (simp only [List.length_cons, List.length_nil, Nat.zero_add, Nat.reduceAdd]; omega))
 refine hnum.mono ?_
 clear hnum
 rintro e w2 ⟨rfl, hW, hK⟩
 have HD2 : Az ((D1 ++ fb_ [x.f1, x.f2]).length = bs.length + (8 + x.f0.size) + 8 * 2) := ⟨by first | (rw [List.length_append, HD1.out]; simp [ua_, cc_, zb_]; done) | rw [List.length_append, HD1.out]⟩
 generalize D1 ++ fb_ [x.f1, x.f2] = D2 at *
 have HW2 := aM_ hW
 have HK2 := aM_ (HK1.out.trans hK)
 have HB2 := aM_ (hK _ _ HB1.out HGB.out (fun cs z e => by injection e with _ e; exact absurd e (by decide)))
 clear hW hK HW1 HK1 HB1
 clear hc1_0 hc1_1 hc1_2
 go_wp2
 go_end0
 exact ⟨rfl, by rw [HE.out]; exact HW2.out, HK2.out⟩
theorem sp_ (w0 : World) (g : Nat) (bs : List Int) (x : S56) (A1 : Option Addr) (c1 : Nat) (A3 : Option Addr) (c3 : Nat) (W : World) (h : WrAt w0 g bs W) (hr1 : Kd.C (Kd.int .i64) w0 A1 x.f1.length x.f1) (hc1 : x.f1.length ≤ c1) (hr3 : Kd.C (Kd.int .i64) w0 A3 x.f2.f1.length x.f2.f1) (hc3 : x.f2.f1.length ≤ c3) (hlen : bs.length + (fc_ x).length ≤ 1000000000000) :
  Calls Tryz.prog 79 #[.pointer (some ⟨g, 0, none⟩), .agg #[.int .i64 x.f0, .slice A1 x.f1.length c1, .int .i64 x.f2.f0, .slice A3 x.f2.f1.length c3, .int .i64 x.f3]] W fun e W' => e = .returned (.tuple #[]) ∧ WrAt w0 g (bs ++ fc_ x) W' ∧ Kept8 g W W' := by
 have hl0 : (fc_ x).length = 8 + (8 + 8 * x.f1.length) + 8 + (8 + 8 * x.f2.f1.length) + 8 := by unfold fc_; simp only [List.length_append, zb_, ua_, List.length_cons, List.length_nil]
 rw [hl0] at hlen
 obtain ⟨D0, hD0⟩ : ∃ D, D = bs := ⟨_, rfl⟩
 have HE : Az (bs ++ fc_ x = D0 ++ fb_ [x.f0] ++ xc_ x.f1 ++ fb_ [x.f2.f0] ++ xc_ x.f2.f1 ++ fb_ [x.f3]) := ⟨by rw [hD0]; unfold fc_; simp only [List.append_assoc]⟩
 have hd0 : D0.length = bs.length := by rw [hD0]
 rw [← hD0] at h
 have HB0 : Az ((W.alloc (.cells #[.int .i64 x.f0, .slice A1 x.f1.length c1, .int .i64 x.f2.f0, .slice A3 x.f2.f1.length c3, .int .i64 x.f3] 56)).heap[W.heap.size]? = some (.cells #[.int .i64 x.f0, .slice A1 x.f1.length c1, .int .i64 x.f2.f0, .slice A3 x.f2.f1.length c3, .int .i64 x.f3] 56 (0, 0))) := ⟨ra_ W _⟩
 have HW0 : Az (WrAt w0 g D0 (W.alloc (.cells #[.int .i64 x.f0, .slice A1 x.f1.length c1, .int .i64 x.f2.f0, .slice A3 x.f2.f1.length c3, .int .i64 x.f3] 56))) := ⟨h.grow (aa_ (Below.refl _ _) _)⟩
 have HK0 : Az (Kept8 g W (W.alloc (.cells #[.int .i64 x.f0, .slice A1 x.f1.length c1, .int .i64 x.f2.f0, .slice A3 x.f2.f1.length c3, .int .i64 x.f3] 56))) := ⟨Kept8.below (aa_ (Below.refl _ _) _)⟩
 have hgb : W.heap.size ≠ g := by obtain ⟨_, _, hb, _⟩ := h.row; have := za_ hb; omega
 have HGB := aM_ hgb
 clear hgb
 have HLN := aM_ hlen
 have HD0 := aM_ hd0
 clear h hl0 hD0 hlen hd0
 go_enter Tryz.func79, Tryz.ntmps79
 go_wp2_with fail
 have hnum := uc_ w0 g D0 [x.f0] (W.alloc (.cells #[.int .i64 x.f0, .slice A1 x.f1.length c1, .int .i64 x.f2.f0, .slice A3 x.f2.f1.length c3, .int .i64 x.f3] 56)) HW0.out (by simp) (by rw [HD0.out]; have := HLN.out; first | omega | (simp only [List.length_cons, List.length_nil, Nat.zero_add, Nat.reduceAdd]; omega))
 rw [show (W.alloc (.cells #[.int .i64 x.f0, .slice A1 x.f1.length c1, .int .i64 x.f2.f0, .slice A3 x.f2.f1.length c3, .int .i64 x.f3] 56)).heap.size = W.heap.size + 1 by simp] at hnum
 refine hnum.mono ?_
 clear hnum
 rintro e w1 ⟨rfl, hW, hK⟩
 have HD1 : Az ((D0 ++ fb_ [x.f0]).length = bs.length + 8 * 1) := ⟨by first | (rw [List.length_append, HD0.out]; simp [ua_, cc_, zb_]; done) | rw [List.length_append, HD0.out]⟩
 generalize D0 ++ fb_ [x.f0] = D1 at *
 have HW1 := aM_ hW
 have HK1 := aM_ (HK0.out.trans hK)
 have HB1 := aM_ (hK _ _ HB0.out HGB.out (fun cs z e => by injection e with _ e; exact absurd e (by decide)))
 clear hW hK HW0 HK0 HB0
 have hc1_0 := ba_ HB1.out 0
 have hc1_1 := ba_ HB1.out 1
 have hc1_2 := ba_ HB1.out 2
 have hc1_3 := ba_ HB1.out 3
 have hc1_4 := ba_ HB1.out 4
 go_wp2_with fail
 refine (oi_ w0 g D1 A1 c1 x.f1 w1 HW1.out hr1 hc1 (by rw [zb_]; rw [HD1.out]; have := HLN.out; first | omega | (simp only [List.length_cons, List.length_nil, Nat.zero_add, Nat.reduceAdd]; omega))).mono ?_
 rintro e w2 ⟨rfl, hW, hK⟩
 have HD2 : Az ((D1 ++ xc_ x.f1).length = bs.length + 8 * 1 + (8 + 8 * x.f1.length)) := ⟨by first | (rw [List.length_append, HD1.out]; simp [ua_, cc_, zb_]; done) | rw [List.length_append, HD1.out]⟩
 generalize D1 ++ xc_ x.f1 = D2 at *
 have HW2 := aM_ hW
 have HK2 := aM_ (HK1.out.trans hK)
 have HB2 := aM_ (hK _ _ HB1.out HGB.out (fun cs z e => by injection e with _ e; exact absurd e (by decide)))
 clear hW hK HW1 HK1 HB1
 clear hc1_0 hc1_1 hc1_2 hc1_3 hc1_4
 have hc2_0 := ba_ HB2.out 0
 have hc2_1 := ba_ HB2.out 1
 have hc2_2 := ba_ HB2.out 2
 have hc2_3 := ba_ HB2.out 3
 have hc2_4 := ba_ HB2.out 4
 go_wp2_with fail
 have hnum := uc_ w0 g D2 [x.f2.f0] w2 HW2.out (by simp) (by rw [HD2.out]; have := HLN.out; first | omega | (simp only [List.length_cons, List.length_nil, Nat.zero_add, Nat.reduceAdd]; omega))
 refine hnum.mono ?_
 clear hnum
 rintro e w3 ⟨rfl, hW, hK⟩
 have HD3 : Az ((D2 ++ fb_ [x.f2.f0]).length = bs.length + 8 * 1 + (8 + 8 * x.f1.length) + 8 * 1) := ⟨by first | (rw [List.length_append, HD2.out]; simp [ua_, cc_, zb_]; done) | rw [List.length_append, HD2.out]⟩
 generalize D2 ++ fb_ [x.f2.f0] = D3 at *
 have HW3 := aM_ hW
 have HK3 := aM_ (HK2.out.trans hK)
 have HB3 := aM_ (hK _ _ HB2.out HGB.out (fun cs z e => by injection e with _ e; exact absurd e (by decide)))
 clear hW hK HW2 HK2 HB2
 clear hc2_0 hc2_1 hc2_2 hc2_3 hc2_4
 have hc3_0 := ba_ HB3.out 0
 have hc3_1 := ba_ HB3.out 1
 have hc3_2 := ba_ HB3.out 2
 have hc3_3 := ba_ HB3.out 3
 have hc3_4 := ba_ HB3.out 4
 go_wp2_with fail
 refine (oi_ w0 g D3 A3 c3 x.f2.f1 w3 HW3.out hr3 hc3 (by rw [zb_]; rw [HD3.out]; have := HLN.out; first | omega | (simp only [List.length_cons, List.length_nil, Nat.zero_add, Nat.reduceAdd]; omega))).mono ?_
 rintro e w4 ⟨rfl, hW, hK⟩
 have HD4 : Az ((D3 ++ xc_ x.f2.f1).length = bs.length + 8 * 1 + (8 + 8 * x.f1.length) + 8 * 1 + (8 + 8 * x.f2.f1.length)) := ⟨by first | (rw [List.length_append, HD3.out]; simp [ua_, cc_, zb_]; done) | rw [List.length_append, HD3.out]⟩
 generalize D3 ++ xc_ x.f2.f1 = D4 at *
 have HW4 := aM_ hW
 have HK4 := aM_ (HK3.out.trans hK)
 have HB4 := aM_ (hK _ _ HB3.out HGB.out (fun cs z e => by injection e with _ e; exact absurd e (by decide)))
 clear hW hK HW3 HK3 HB3
 clear hc3_0 hc3_1 hc3_2 hc3_3 hc3_4
 have hc4_0 := ba_ HB4.out 0
 have hc4_1 := ba_ HB4.out 1
 have hc4_2 := ba_ HB4.out 2
 have hc4_3 := ba_ HB4.out 3
 have hc4_4 := ba_ HB4.out 4
 go_wp2_with fail
 have hnum := uc_ w0 g D4 [x.f3] w4 HW4.out (by simp) (by rw [HD4.out]; have := HLN.out; first | omega | (simp only [List.length_cons, List.length_nil, Nat.zero_add, Nat.reduceAdd]; omega))
 refine hnum.mono ?_
 clear hnum
 rintro e w5 ⟨rfl, hW, hK⟩
 have HD5 : Az ((D4 ++ fb_ [x.f3]).length = bs.length + 8 * 1 + (8 + 8 * x.f1.length) + 8 * 1 + (8 + 8 * x.f2.f1.length) + 8 * 1) := ⟨by first | (rw [List.length_append, HD4.out]; simp [ua_, cc_, zb_]; done) | rw [List.length_append, HD4.out]⟩
 generalize D4 ++ fb_ [x.f3] = D5 at *
 have HW5 := aM_ hW
 have HK5 := aM_ (HK4.out.trans hK)
 have HB5 := aM_ (hK _ _ HB4.out HGB.out (fun cs z e => by injection e with _ e; exact absurd e (by decide)))
 clear hW hK HW4 HK4 HB4
 clear hc4_0 hc4_1 hc4_2 hc4_3 hc4_4
 go_wp2
 go_end0
 exact ⟨rfl, by rw [HE.out]; exact HW5.out, HK5.out⟩
theorem qr_ (w0 : World) (g : Nat) (bs : List Int) (x : S48) (W : World) (h : WrAt w0 g bs W)  (hlen : bs.length + (nc_ x).length ≤ 1000000000000) :
  Calls Tryz.prog 125 #[.pointer (some ⟨g, 0, none⟩), .agg #[.int .i64 x.f0, .string x.f1, .int .i64 x.f2, .int .i64 x.f3, .int .i64 x.f4]] W fun e W' => e = .returned (.tuple #[]) ∧ WrAt w0 g (bs ++ nc_ x) W' ∧ Kept8 g W W' := by
 have hl0 : (nc_ x).length = 8 + (8 + x.f1.size) + 24 := by unfold nc_; simp only [List.length_append, cc_, ua_, List.length_cons, List.length_nil]
 rw [hl0] at hlen
 obtain ⟨D0, hD0⟩ : ∃ D, D = bs := ⟨_, rfl⟩
 have HE : Az (bs ++ nc_ x = D0 ++ fb_ [x.f0] ++ txt8 x.f1 ++ fb_ [x.f2, x.f3, x.f4]) := ⟨by rw [hD0]; unfold nc_; simp only [List.append_assoc]⟩
 have hd0 : D0.length = bs.length := by rw [hD0]
 rw [← hD0] at h
 have HB0 : Az ((W.alloc (.cells #[.int .i64 x.f0, .string x.f1, .int .i64 x.f2, .int .i64 x.f3, .int .i64 x.f4] 48)).heap[W.heap.size]? = some (.cells #[.int .i64 x.f0, .string x.f1, .int .i64 x.f2, .int .i64 x.f3, .int .i64 x.f4] 48 (0, 0))) := ⟨ra_ W _⟩
 have HW0 : Az (WrAt w0 g D0 (W.alloc (.cells #[.int .i64 x.f0, .string x.f1, .int .i64 x.f2, .int .i64 x.f3, .int .i64 x.f4] 48))) := ⟨h.grow (aa_ (Below.refl _ _) _)⟩
 have HK0 : Az (Kept8 g W (W.alloc (.cells #[.int .i64 x.f0, .string x.f1, .int .i64 x.f2, .int .i64 x.f3, .int .i64 x.f4] 48))) := ⟨Kept8.below (aa_ (Below.refl _ _) _)⟩
 have hgb : W.heap.size ≠ g := by obtain ⟨_, _, hb, _⟩ := h.row; have := za_ hb; omega
 have HGB := aM_ hgb
 clear hgb
 have HLN := aM_ hlen
 have HD0 := aM_ hd0
 clear h hl0 hD0 hlen hd0
 go_enter Tryz.func125, Tryz.ntmps125
 go_wp2_with fail
 have hnum := uc_ w0 g D0 [x.f0] (W.alloc (.cells #[.int .i64 x.f0, .string x.f1, .int .i64 x.f2, .int .i64 x.f3, .int .i64 x.f4] 48)) HW0.out (by simp) (by rw [HD0.out]; have := HLN.out; first | omega | (simp only [List.length_cons, List.length_nil, Nat.zero_add, Nat.reduceAdd]; omega))
 rw [show (W.alloc (.cells #[.int .i64 x.f0, .string x.f1, .int .i64 x.f2, .int .i64 x.f3, .int .i64 x.f4] 48)).heap.size = W.heap.size + 1 by simp] at hnum
 refine hnum.mono ?_
 clear hnum
 rintro e w1 ⟨rfl, hW, hK⟩
 have HD1 : Az ((D0 ++ fb_ [x.f0]).length = bs.length + 8 * 1) := ⟨by first | (rw [List.length_append, HD0.out]; simp [ua_, cc_, zb_]; done) | rw [List.length_append, HD0.out]⟩
 generalize D0 ++ fb_ [x.f0] = D1 at *
 have HW1 := aM_ hW
 have HK1 := aM_ (HK0.out.trans hK)
 have HB1 := aM_ (hK _ _ HB0.out HGB.out (fun cs z e => by injection e with _ e; exact absurd e (by decide)))
 clear hW hK HW0 HK0 HB0
 have hc1_0 := ba_ HB1.out 0
 have hc1_1 := ba_ HB1.out 1
 have hc1_2 := ba_ HB1.out 2
 have hc1_3 := ba_ HB1.out 3
 have hc1_4 := ba_ HB1.out 4
 go_wp2_with fail
 refine (ti_ w0 g D1 x.f1 w1 HW1.out (by rw [HD1.out]; have := HLN.out; first | omega | (simp only [List.length_cons, List.length_nil, Nat.zero_add, Nat.reduceAdd]; omega))).mono ?_
 rintro e w2 ⟨rfl, hW, hK⟩
 have HD2 : Az ((D1 ++ txt8 x.f1).length = bs.length + 8 * 1 + (8 + x.f1.size)) := ⟨by first | (rw [List.length_append, HD1.out]; simp [ua_, cc_, zb_]; done) | rw [List.length_append, HD1.out]⟩
 generalize D1 ++ txt8 x.f1 = D2 at *
 have HW2 := aM_ hW
 have HK2 := aM_ (HK1.out.trans hK)
 have HB2 := aM_ (hK _ _ HB1.out HGB.out (fun cs z e => by injection e with _ e; exact absurd e (by decide)))
 clear hW hK HW1 HK1 HB1
 clear hc1_0 hc1_1 hc1_2 hc1_3 hc1_4
 have hc2_0 := ba_ HB2.out 0
 have hc2_1 := ba_ HB2.out 1
 have hc2_2 := ba_ HB2.out 2
 have hc2_3 := ba_ HB2.out 3
 have hc2_4 := ba_ HB2.out 4
 go_wp2_with fail
 have hnum := uc_ w0 g D2 [x.f2, x.f3, x.f4] w2 HW2.out (by simp) (by rw [HD2.out]; have := HLN.out; first | omega | (simp only [List.length_cons, List.length_nil, Nat.zero_add, Nat.reduceAdd]; omega))
 refine hnum.mono ?_
 clear hnum
 rintro e w3 ⟨rfl, hW, hK⟩
 have HD3 : Az ((D2 ++ fb_ [x.f2, x.f3, x.f4]).length = bs.length + 8 * 1 + (8 + x.f1.size) + 8 * 3) := ⟨by first | (rw [List.length_append, HD2.out]; simp [ua_, cc_, zb_]; done) | rw [List.length_append, HD2.out]⟩
 generalize D2 ++ fb_ [x.f2, x.f3, x.f4] = D3 at *
 have HW3 := aM_ hW
 have HK3 := aM_ (HK2.out.trans hK)
 have HB3 := aM_ (hK _ _ HB2.out HGB.out (fun cs z e => by injection e with _ e; exact absurd e (by decide)))
 clear hW hK HW2 HK2 HB2
 clear hc2_0 hc2_1 hc2_2 hc2_3 hc2_4
 go_wp2
 go_end0
 exact ⟨rfl, by rw [HE.out]; exact HW3.out, HK3.out⟩
def pb_ {α : Type} (f : α → List Int) (l : List α) : List Int := fb_ [(l.length : Int)] ++ l.flatMap f
theorem md_ {α : Type} (f : α → List Int) (l : List α) (i : Nat) (hi : i < l.length) : (l.take (i + 1)).flatMap f = (l.take i).flatMap f ++ f l[i] := by
 rw [List.take_succ_eq_append_getElem hi, List.flatMap_append]
 simp
theorem ze_ {α : Type} (f : α → List Int) (l : List α) (i : Nat) (hi : i < l.length) : ((l.take i).flatMap f).length + (f l[i]).length ≤ (l.flatMap f).length := by
 have h1 := md_ f l i hi
 have h2 : l.flatMap f = (l.take (i + 1)).flatMap f ++ (l.drop (i + 1)).flatMap f := by rw [← List.flatMap_append, List.take_append_drop]
 rw [h2, h1, List.length_append, List.length_append]
 omega
theorem js_ (w0 : World) (g : Nat) (bs : List Int) (A : Option Addr) (c : Nat) (l : List S46) (W : World) (h : WrAt w0 g bs W) (hr : Kd.C k46 w0 A l.length l) (hc : l.length ≤ c) (hlen : bs.length + (pb_ ent8 l).length ≤ 1000000000000) :
  Calls Tryz.prog 76 #[.pointer (some ⟨g, 0, none⟩), .slice A l.length c, .func (.func 77) #[.pointer (some ⟨g, 0, none⟩)] #[]] W fun e W' => e = .returned (.tuple #[]) ∧ WrAt w0 g (bs ++ pb_ ent8 l) W' ∧ Kept8 g W W' := by
 have hl0 : (pb_ ent8 l).length = 8 + (l.flatMap ent8).length := by unfold pb_; rw [List.length_append, ua_]; rfl
 rw [hl0] at hlen
 have hnum := uc_ w0 g bs [(l.length : Int)] W h (by simp) (by simp; omega)
 have HN := aM_ hnum
 have HLN := aM_ hlen
 have HR := aM_ hr
 have hbn : l.length ≤ 9223372036854775807 := hr.2.1
 have HE : Az (bs ++ pb_ ent8 l = bs ++ fb_ [(l.length : Int)] ++ (l.take l.length).flatMap ent8) := ⟨by rw [List.take_length]; unfold pb_; rw [List.append_assoc]⟩
 clear hnum h hlen hl0 hr
 go_enter Tryz.func76, Tryz.ntmps76
 go_wp2_with fail
 refine HN.out.mono ?_
 rintro e w1 ⟨rfl, hW, hK⟩
 have HD : Az ((bs ++ fb_ [(l.length : Int)]).length = bs.length + 8) := ⟨by rw [List.length_append, ua_]; rfl⟩
 generalize bs ++ fb_ [(l.length : Int)] = D at *
 have HW0 : Az (WrAt w0 g (D ++ (l.take 0).flatMap ent8) w1) := ⟨by rw [List.take_zero]; show WrAt w0 g (D ++ []) w1; rw [List.append_nil]; exact hW⟩
 have HK0 := aM_ hK
 clear hW hK HN
 go_wp2
 go_loopg [15] l.length (fun gg s15 wr => ∃ i : Nat, i ≤ l.length ∧ l.length - i ≤ gg ∧ s15 = .int .i64 i ∧ Az (WrAt w0 g (D ++ (l.take i).flatMap ent8) wr) ∧ Az (Kept8 g W wr))
 case atStart => exact ⟨0, by omega, by omega, rfl, HW0, HK0⟩
 clear HW0 HK0
 obtain ⟨i, hi, hgg, rfl, HW, HK⟩ := hrel
 by_cases hil : i < l.length
 ·have hilz : (i : Int) < (l.length : Int) := by omega
  obtain ⟨ad, hA, h0, h1, h2⟩ := bt_ HR.out (i : Int) (by omega) hilz; subst hA
  have hy : ve_ l (i : Int) = l[i] := by
   show l.getD (i : Int).toNat _ = _; rw [Int.toNat_natCast, List.getD_eq_getElem?_getD, List.getElem?_eq_getElem hil]; rfl
  have hsn := md_ ent8 l i hil; have hle := ze_ ent8 l i hil; rw [← hy] at hsn hle; generalize ve_ l (i : Int) = y at *; rw [Int.toNat_natCast] at h0 h1 h2; replace h0 := ha_ HW.out.below h0; replace h1 := ha_ HW.out.below h1; replace h2 := ha_ HW.out.below h2; have HSN := aM_ hsn; have hlb : (D ++ (l.take i).flatMap ent8).length + (ent8 y).length ≤ 1000000000000 := by rw [List.length_append, HD.out]; have := HLN.out; omega
  have HLB := aM_ hlb; have HW1 := aM_ (HW.out.grow (aa_ (Below.refl _ _) (.cells #[.string y.f0, .int .i64 y.f1, .int .i64 y.f2] 46))); have HK1 := aM_ (HK.out.trans (Kept8.below (g := g) (aa_ (Below.refl wr.heap.size wr) (.cells #[.string y.f0, .int .i64 y.f1, .int .i64 y.f2] 46)))); obtain ⟨E, hE⟩ : ∃ E, E = D ++ (l.take i).flatMap ent8 := ⟨_, rfl⟩; rw [← hE] at HW1 HLB; have HEE := aM_ hE; clear hy hsn hle hlb HW HK hE
  go_wp2_with fail
  refine (vq_ w0 g E y _ HW1.out HLB.out).mono ?_; rintro e w2 ⟨rfl, hW, hK⟩; have HW2 : Az (WrAt w0 g (D ++ (l.take (i + 1)).flatMap ent8) w2) := ⟨by rw [HSN.out, ← List.append_assoc, ← HEE.out]; exact hW⟩; have HK2 := aM_ (HK1.out.trans hK); clear hW hK HW1 HK1 h0 h1 h2
  go_wp2
  go_roundg (l.length - (i + 1))
  case measure => omega
  case rel => exact ⟨i + 1, by omega, by omega, by go_num, HW2, HK2⟩
 have he : i = l.length := by omega
 have hilz : decide ((i : Int) < (l.length : Int)) = false := by simp; omega
 rw [he] at HW
 clear he
 go_wp2
 go_end0
 exact ⟨rfl, by rw [HE.out]; exact HW.out, HK.out⟩
theorem fs_ (w0 : World) (g : Nat) (bs : List Int) (A : Option Addr) (c : Nat) (l : List S56) (W : World) (h : WrAt w0 g bs W) (hr : Kd.C k56 w0 A l.length l) (hc : l.length ≤ c) (hlen : bs.length + (pb_ fc_ l).length ≤ 1000000000000) :
  Calls Tryz.prog 78 #[.pointer (some ⟨g, 0, none⟩), .slice A l.length c, .func (.func 79) #[.pointer (some ⟨g, 0, none⟩)] #[]] W fun e W' => e = .returned (.tuple #[]) ∧ WrAt w0 g (bs ++ pb_ fc_ l) W' ∧ Kept8 g W W' := by
 have hl0 : (pb_ fc_ l).length = 8 + (l.flatMap fc_).length := by unfold pb_; rw [List.length_append, ua_]; rfl
 rw [hl0] at hlen
 have hnum := uc_ w0 g bs [(l.length : Int)] W h (by simp) (by simp; omega)
 have HN := aM_ hnum
 have HLN := aM_ hlen
 have HR := aM_ hr
 have hbn : l.length ≤ 9223372036854775807 := hr.2.1
 have HE : Az (bs ++ pb_ fc_ l = bs ++ fb_ [(l.length : Int)] ++ (l.take l.length).flatMap fc_) := ⟨by rw [List.take_length]; unfold pb_; rw [List.append_assoc]⟩
 clear hnum h hlen hl0 hr
 go_enter Tryz.func78, Tryz.ntmps78
 go_wp2_with fail
 refine HN.out.mono ?_
 rintro e w1 ⟨rfl, hW, hK⟩
 have HD : Az ((bs ++ fb_ [(l.length : Int)]).length = bs.length + 8) := ⟨by rw [List.length_append, ua_]; rfl⟩
 generalize bs ++ fb_ [(l.length : Int)] = D at *
 have HW0 : Az (WrAt w0 g (D ++ (l.take 0).flatMap fc_) w1) := ⟨by rw [List.take_zero]; show WrAt w0 g (D ++ []) w1; rw [List.append_nil]; exact hW⟩
 have HK0 := aM_ hK
 clear hW hK HN
 go_wp2
 go_loopg [15] l.length (fun gg s15 wr => ∃ i : Nat, i ≤ l.length ∧ l.length - i ≤ gg ∧ s15 = .int .i64 i ∧ Az (WrAt w0 g (D ++ (l.take i).flatMap fc_) wr) ∧ Az (Kept8 g W wr))
 case atStart => exact ⟨0, by omega, by omega, rfl, HW0, HK0⟩
 clear HW0 HK0
 obtain ⟨i, hi, hgg, rfl, HW, HK⟩ := hrel
 by_cases hil : i < l.length
 ·have hilz : (i : Int) < (l.length : Int) := by omega
  obtain ⟨ad, A1, c1, A3, c3, hA, h0, h1, h2, h3, h4, l1, g1, l3, g3⟩ := bj_ HR.out (i : Int) (by omega) hilz; subst hA
  have hy : yb_ l (i : Int) = l[i] := by
   show l.getD (i : Int).toNat _ = _; rw [Int.toNat_natCast, List.getD_eq_getElem?_getD, List.getElem?_eq_getElem hil]; rfl
  have hsn := md_ fc_ l i hil; have hle := ze_ fc_ l i hil; rw [← hy] at hsn hle; generalize yb_ l (i : Int) = y at *; rw [Int.toNat_natCast] at h0 h1 h2 h3 h4; replace h0 := ha_ HW.out.below h0; replace h1 := ha_ HW.out.below h1; replace h2 := ha_ HW.out.below h2; replace h3 := ha_ HW.out.below h3; replace h4 := ha_ HW.out.below h4; have HSN := aM_ hsn; have hlb : (D ++ (l.take i).flatMap fc_).length + (fc_ y).length ≤ 1000000000000 := by rw [List.length_append, HD.out]; have := HLN.out; omega
  have HLB := aM_ hlb; have HW1 := aM_ (HW.out.grow (aa_ (Below.refl _ _) (.cells #[.int .i64 y.f0, .slice A1 y.f1.length c1, .int .i64 y.f2.f0, .slice A3 y.f2.f1.length c3, .int .i64 y.f3] 56))); have HK1 := aM_ (HK.out.trans (Kept8.below (g := g) (aa_ (Below.refl wr.heap.size wr) (.cells #[.int .i64 y.f0, .slice A1 y.f1.length c1, .int .i64 y.f2.f0, .slice A3 y.f2.f1.length c3, .int .i64 y.f3] 56)))); obtain ⟨E, hE⟩ : ∃ E, E = D ++ (l.take i).flatMap fc_ := ⟨_, rfl⟩; rw [← hE] at HW1 HLB; have HEE := aM_ hE; clear hy hsn hle hlb HW HK hE
  go_wp2_with fail
  refine (sp_ w0 g E y A1 c1 A3 c3 _ HW1.out g1 l1 g3 l3 HLB.out).mono ?_; rintro e w2 ⟨rfl, hW, hK⟩; have HW2 : Az (WrAt w0 g (D ++ (l.take (i + 1)).flatMap fc_) w2) := ⟨by rw [HSN.out, ← List.append_assoc, ← HEE.out]; exact hW⟩; have HK2 := aM_ (HK1.out.trans hK); clear hW hK HW1 HK1 h0 h1 h2 h3 h4
  go_wp2
  go_roundg (l.length - (i + 1))
  case measure => omega
  case rel => exact ⟨i + 1, by omega, by omega, by go_num, HW2, HK2⟩
 have he : i = l.length := by omega
 have hilz : decide ((i : Int) < (l.length : Int)) = false := by simp; omega
 rw [he] at HW
 clear he
 go_wp2
 go_end0
 exact ⟨rfl, by rw [HE.out]; exact HW.out, HK.out⟩
theorem gs_ (w0 : World) (g : Nat) (bs : List Int) (A : Option Addr) (c : Nat) (l : List S48) (W : World) (h : WrAt w0 g bs W) (hr : Kd.C k48 w0 A l.length l) (hc : l.length ≤ c) (hlen : bs.length + (pb_ nc_ l).length ≤ 1000000000000) :
  Calls Tryz.prog 124 #[.pointer (some ⟨g, 0, none⟩), .slice A l.length c, .func (.func 125) #[.pointer (some ⟨g, 0, none⟩)] #[]] W fun e W' => e = .returned (.tuple #[]) ∧ WrAt w0 g (bs ++ pb_ nc_ l) W' ∧ Kept8 g W W' := by
 have hl0 : (pb_ nc_ l).length = 8 + (l.flatMap nc_).length := by unfold pb_; rw [List.length_append, ua_]; rfl
 rw [hl0] at hlen
 have hnum := uc_ w0 g bs [(l.length : Int)] W h (by simp) (by simp; omega)
 have HN := aM_ hnum
 have HLN := aM_ hlen
 have HR := aM_ hr
 have hbn : l.length ≤ 9223372036854775807 := hr.2.1
 have HE : Az (bs ++ pb_ nc_ l = bs ++ fb_ [(l.length : Int)] ++ (l.take l.length).flatMap nc_) := ⟨by rw [List.take_length]; unfold pb_; rw [List.append_assoc]⟩
 clear hnum h hlen hl0 hr
 go_enter Tryz.func124, Tryz.ntmps124
 go_wp2_with fail
 refine HN.out.mono ?_
 rintro e w1 ⟨rfl, hW, hK⟩
 have HD : Az ((bs ++ fb_ [(l.length : Int)]).length = bs.length + 8) := ⟨by rw [List.length_append, ua_]; rfl⟩
 generalize bs ++ fb_ [(l.length : Int)] = D at *
 have HW0 : Az (WrAt w0 g (D ++ (l.take 0).flatMap nc_) w1) := ⟨by rw [List.take_zero]; show WrAt w0 g (D ++ []) w1; rw [List.append_nil]; exact hW⟩
 have HK0 := aM_ hK
 clear hW hK HN
 go_wp2
 go_loopg [15] l.length (fun gg s15 wr => ∃ i : Nat, i ≤ l.length ∧ l.length - i ≤ gg ∧ s15 = .int .i64 i ∧ Az (WrAt w0 g (D ++ (l.take i).flatMap nc_) wr) ∧ Az (Kept8 g W wr))
 case atStart => exact ⟨0, by omega, by omega, rfl, HW0, HK0⟩
 clear HW0 HK0
 obtain ⟨i, hi, hgg, rfl, HW, HK⟩ := hrel
 by_cases hil : i < l.length
 ·have hilz : (i : Int) < (l.length : Int) := by omega
  obtain ⟨ad, hA, h0, h1, h2, h3, h4⟩ := zs_ HR.out (i : Int) (by omega) hilz; subst hA
  have hy : qd_ l (i : Int) = l[i] := by
   show l.getD (i : Int).toNat _ = _; rw [Int.toNat_natCast, List.getD_eq_getElem?_getD, List.getElem?_eq_getElem hil]; rfl
  have hsn := md_ nc_ l i hil; have hle := ze_ nc_ l i hil; rw [← hy] at hsn hle; generalize qd_ l (i : Int) = y at *; rw [Int.toNat_natCast] at h0 h1 h2 h3 h4; replace h0 := ha_ HW.out.below h0; replace h1 := ha_ HW.out.below h1; replace h2 := ha_ HW.out.below h2; replace h3 := ha_ HW.out.below h3; replace h4 := ha_ HW.out.below h4; have HSN := aM_ hsn; have hlb : (D ++ (l.take i).flatMap nc_).length + (nc_ y).length ≤ 1000000000000 := by rw [List.length_append, HD.out]; have := HLN.out; omega
  have HLB := aM_ hlb; have HW1 := aM_ (HW.out.grow (aa_ (Below.refl _ _) (.cells #[.int .i64 y.f0, .string y.f1, .int .i64 y.f2, .int .i64 y.f3, .int .i64 y.f4] 48))); have HK1 := aM_ (HK.out.trans (Kept8.below (g := g) (aa_ (Below.refl wr.heap.size wr) (.cells #[.int .i64 y.f0, .string y.f1, .int .i64 y.f2, .int .i64 y.f3, .int .i64 y.f4] 48)))); obtain ⟨E, hE⟩ : ∃ E, E = D ++ (l.take i).flatMap nc_ := ⟨_, rfl⟩; rw [← hE] at HW1 HLB; have HEE := aM_ hE; clear hy hsn hle hlb HW HK hE
  go_wp2_with fail
  refine (qr_ w0 g E y _ HW1.out HLB.out).mono ?_; rintro e w2 ⟨rfl, hW, hK⟩; have HW2 : Az (WrAt w0 g (D ++ (l.take (i + 1)).flatMap nc_) w2) := ⟨by rw [HSN.out, ← List.append_assoc, ← HEE.out]; exact hW⟩; have HK2 := aM_ (HK1.out.trans hK); clear hW hK HW1 HK1 h0 h1 h2 h3 h4
  go_wp2
  go_roundg (l.length - (i + 1))
  case measure => omega
  case rel => exact ⟨i + 1, by omega, by omega, by go_num, HW2, HK2⟩
 have he : i = l.length := by omega
 have hilz : decide ((i : Int) < (l.length : Int)) = false := by simp; omega
 rw [he] at HW
 clear he
 go_wp2
 go_end0
 exact ⟨rfl, by rw [HE.out]; exact HW.out, HK.out⟩
def ob_ (s : S52) : List Int := fb_ [s.f0] ++ pb_ nc_ s.f1
def loc8 (x : S44) : List Int := txt8 x.f0 ++ fb_ [x.f1, x.f2] ++ pb_ ent8 x.f3 ++ pb_ fc_ x.f4 ++ pb_ ob_ x.f5
theorem np_ (w0 : World) (g : Nat) (bs : List Int) (x : S52) (A1 : Option Addr) (c1 : Nat) (W : World) (h : WrAt w0 g bs W) (hr1 : Kd.C k48 w0 A1 x.f1.length x.f1) (hc1 : x.f1.length ≤ c1) (hlen : bs.length + (ob_ x).length ≤ 1000000000000) :
  Calls Tryz.prog 81 #[.pointer (some ⟨g, 0, none⟩), .agg #[.int .i64 x.f0, .slice A1 x.f1.length c1]] W fun e W' => e = .returned (.tuple #[]) ∧ WrAt w0 g (bs ++ ob_ x) W' ∧ Kept8 g W W' := by
 have hl0 : (ob_ x).length = 8 + (pb_ nc_ x.f1).length := by unfold ob_; rw [List.length_append, ua_]; rfl
 rw [hl0] at hlen
 obtain ⟨D0, hD0⟩ : ∃ D, D = bs := ⟨_, rfl⟩
 have HE : Az (bs ++ ob_ x = D0 ++ fb_ [x.f0] ++ pb_ nc_ x.f1) := ⟨by rw [hD0]; unfold ob_; simp only [List.append_assoc]⟩
 have hd0 : D0.length = bs.length := by rw [hD0]
 rw [← hD0] at h
 have HB0 : Az ((W.alloc (.cells #[.int .i64 x.f0, .slice A1 x.f1.length c1] 52)).heap[W.heap.size]? = some (.cells #[.int .i64 x.f0, .slice A1 x.f1.length c1] 52 (0, 0))) := ⟨ra_ W _⟩
 have HW0 : Az (WrAt w0 g D0 (W.alloc (.cells #[.int .i64 x.f0, .slice A1 x.f1.length c1] 52))) := ⟨h.grow (aa_ (Below.refl _ _) _)⟩
 have HK0 : Az (Kept8 g W (W.alloc (.cells #[.int .i64 x.f0, .slice A1 x.f1.length c1] 52))) := ⟨Kept8.below (aa_ (Below.refl _ _) _)⟩
 have hgb : W.heap.size ≠ g := by obtain ⟨_, _, hb, _⟩ := h.row; have := za_ hb; omega
 have HGB := aM_ hgb
 clear hgb
 have HLN := aM_ hlen
 have HD0 := aM_ hd0
 clear h hl0 hD0 hlen hd0
 have hmf : ∀ (fn : Fn) (first cap : Array Value) (w : World), (Instr.makeFunc fn first cap).run Tryz.prog w = .ok (.func fn first cap) w := fun _ _ _ _ => rfl
 go_enter Tryz.func81, Tryz.ntmps81
 go_wp2_with fail
 have hnum := uc_ w0 g D0 [x.f0] (W.alloc (.cells #[.int .i64 x.f0, .slice A1 x.f1.length c1] 52)) HW0.out (by simp) (by rw [HD0.out]; have := HLN.out; first | omega | (simp only [List.length_cons, List.length_nil, Nat.zero_add, Nat.reduceAdd]; omega))
 rw [show (W.alloc (.cells #[.int .i64 x.f0, .slice A1 x.f1.length c1] 52)).heap.size = W.heap.size + 1 by simp] at hnum
 refine hnum.mono ?_
 clear hnum
 rintro e w1 ⟨rfl, hW, hK⟩
 have HD1 : Az ((D0 ++ fb_ [x.f0]).length = bs.length + 8 * 1) := ⟨by first | (rw [List.length_append, HD0.out]; simp [ua_, cc_, zb_]; done) | rw [List.length_append, HD0.out]⟩
 generalize D0 ++ fb_ [x.f0] = D1 at *
 have HW1 := aM_ hW
 have HK1 := aM_ (HK0.out.trans hK)
 have HB1 := aM_ (hK _ _ HB0.out HGB.out (fun cs z e => by injection e with _ e; exact absurd e (by decide)))
 clear hW hK HW0 HK0 HB0
 have hc1_0 := ba_ HB1.out 0
 have hc1_1 := ba_ HB1.out 1
 go_wp2_with fail
 refine (gs_ w0 g D1 A1 c1 x.f1 w1 HW1.out hr1 hc1 (by rw [HD1.out]; have := HLN.out; first | omega | (simp only [List.length_cons, List.length_nil, Nat.zero_add, Nat.reduceAdd]; omega))).mono ?_
 rintro e w2 ⟨rfl, hW, hK⟩
 have HD2 : Az ((D1 ++ pb_ nc_ x.f1).length = bs.length + 8 * 1 + (pb_ nc_ x.f1).length) := ⟨by first | (rw [List.length_append, HD1.out]; simp [ua_, cc_, zb_]; done) | rw [List.length_append, HD1.out]⟩
 generalize D1 ++ pb_ nc_ x.f1 = D2 at *
 have HW2 := aM_ hW
 have HK2 := aM_ (HK1.out.trans hK)
 have HB2 := aM_ (hK _ _ HB1.out HGB.out (fun cs z e => by injection e with _ e; exact absurd e (by decide)))
 clear hW hK HW1 HK1 HB1
 clear hc1_0 hc1_1
 go_wp2
 go_end0
 exact ⟨rfl, by rw [HE.out]; exact HW2.out, HK2.out⟩
theorem es_ (w0 : World) (g : Nat) (bs : List Int) (A : Option Addr) (c : Nat) (l : List S52) (W : World) (h : WrAt w0 g bs W) (hr : Kd.C k52 w0 A l.length l) (hc : l.length ≤ c) (hlen : bs.length + (pb_ ob_ l).length ≤ 1000000000000) :
  Calls Tryz.prog 80 #[.pointer (some ⟨g, 0, none⟩), .slice A l.length c, .func (.func 81) #[.pointer (some ⟨g, 0, none⟩)] #[]] W fun e W' => e = .returned (.tuple #[]) ∧ WrAt w0 g (bs ++ pb_ ob_ l) W' ∧ Kept8 g W W' := by
 have hl0 : (pb_ ob_ l).length = 8 + (l.flatMap ob_).length := by unfold pb_; rw [List.length_append, ua_]; rfl
 rw [hl0] at hlen
 have hnum := uc_ w0 g bs [(l.length : Int)] W h (by simp) (by simp; omega)
 have HN := aM_ hnum
 have HLN := aM_ hlen
 have HR := aM_ hr
 have hbn : l.length ≤ 9223372036854775807 := hr.2.1
 have HE : Az (bs ++ pb_ ob_ l = bs ++ fb_ [(l.length : Int)] ++ (l.take l.length).flatMap ob_) := ⟨by rw [List.take_length]; unfold pb_; rw [List.append_assoc]⟩
 clear hnum h hlen hl0 hr
 go_enter Tryz.func80, Tryz.ntmps80
 go_wp2_with fail
 refine HN.out.mono ?_
 rintro e w1 ⟨rfl, hW, hK⟩
 have HD : Az ((bs ++ fb_ [(l.length : Int)]).length = bs.length + 8) := ⟨by rw [List.length_append, ua_]; rfl⟩
 generalize bs ++ fb_ [(l.length : Int)] = D at *
 have HW0 : Az (WrAt w0 g (D ++ (l.take 0).flatMap ob_) w1) := ⟨by rw [List.take_zero]; show WrAt w0 g (D ++ []) w1; rw [List.append_nil]; exact hW⟩
 have HK0 := aM_ hK
 clear hW hK HN
 go_wp2
 go_loopg [15] l.length (fun gg s15 wr => ∃ i : Nat, i ≤ l.length ∧ l.length - i ≤ gg ∧ s15 = .int .i64 i ∧ Az (WrAt w0 g (D ++ (l.take i).flatMap ob_) wr) ∧ Az (Kept8 g W wr))
 case atStart => exact ⟨0, by omega, by omega, rfl, HW0, HK0⟩
 clear HW0 HK0
 obtain ⟨i, hi, hgg, rfl, HW, HK⟩ := hrel
 by_cases hil : i < l.length
 ·have hilz : (i : Int) < (l.length : Int) := by omega
  obtain ⟨ad, A1, c1, hA, h0, h1, l1, g1⟩ := ip_ HR.out (i : Int) (by omega) hilz; subst hA
  have hy : he_ l (i : Int) = l[i] := by
   show l.getD (i : Int).toNat _ = _; rw [Int.toNat_natCast, List.getD_eq_getElem?_getD, List.getElem?_eq_getElem hil]; rfl
  have hsn := md_ ob_ l i hil; have hle := ze_ ob_ l i hil; rw [← hy] at hsn hle; generalize he_ l (i : Int) = y at *; rw [Int.toNat_natCast] at h0 h1; replace h0 := ha_ HW.out.below h0; replace h1 := ha_ HW.out.below h1; have HSN := aM_ hsn; have hlb : (D ++ (l.take i).flatMap ob_).length + (ob_ y).length ≤ 1000000000000 := by rw [List.length_append, HD.out]; have := HLN.out; omega
  have HLB := aM_ hlb; have HW1 := aM_ (HW.out.grow (aa_ (Below.refl _ _) (.cells #[.int .i64 y.f0, .slice A1 y.f1.length c1] 52))); have HK1 := aM_ (HK.out.trans (Kept8.below (g := g) (aa_ (Below.refl wr.heap.size wr) (.cells #[.int .i64 y.f0, .slice A1 y.f1.length c1] 52)))); obtain ⟨E, hE⟩ : ∃ E, E = D ++ (l.take i).flatMap ob_ := ⟨_, rfl⟩; rw [← hE] at HW1 HLB; have HEE := aM_ hE; clear hy hsn hle hlb HW HK hE
  go_wp2_with fail
  refine (np_ w0 g E y A1 c1 _ HW1.out g1 l1 HLB.out).mono ?_; rintro e w2 ⟨rfl, hW, hK⟩; have HW2 : Az (WrAt w0 g (D ++ (l.take (i + 1)).flatMap ob_) w2) := ⟨by rw [HSN.out, ← List.append_assoc, ← HEE.out]; exact hW⟩; have HK2 := aM_ (HK1.out.trans hK); clear hW hK HW1 HK1 h0 h1
  go_wp2
  go_roundg (l.length - (i + 1))
  case measure => omega
  case rel => exact ⟨i + 1, by omega, by omega, by go_num, HW2, HK2⟩
 have he : i = l.length := by omega
 have hilz : decide ((i : Int) < (l.length : Int)) = false := by simp; omega
 rw [he] at HW
 clear he
 go_wp2
 go_end0
 exact ⟨rfl, by rw [HE.out]; exact HW.out, HK.out⟩
theorem zo_ (w0 : World) (g : Nat) (bs : List Int) (x : S44) (A3 : Option Addr) (c3 : Nat) (A4 : Option Addr) (c4 : Nat) (A5 : Option Addr) (c5 : Nat) (W : World) (h : WrAt w0 g bs W) (hr3 : Kd.C k46 w0 A3 x.f3.length x.f3) (hc3 : x.f3.length ≤ c3) (hr4 : Kd.C k56 w0 A4 x.f4.length x.f4) (hc4 : x.f4.length ≤ c4) (hr5 : Kd.C k52 w0 A5 x.f5.length x.f5) (hc5 : x.f5.length ≤ c5) (hlen : bs.length + (loc8 x).length ≤ 1000000000000) :
  Calls Tryz.prog 34 #[.pointer (some ⟨g, 0, none⟩), .agg #[.string x.f0, .int .i64 x.f1, .int .i64 x.f2, .slice A3 x.f3.length c3, .slice A4 x.f4.length c4, .slice A5 x.f5.length c5]] W fun e W' => e = .returned (.tuple #[]) ∧ WrAt w0 g (bs ++ loc8 x) W' ∧ Kept8 g W W' := by
 have hl0 : (loc8 x).length = 8 + x.f0.size + 16 + (pb_ ent8 x.f3).length + (pb_ fc_ x.f4).length + (pb_ ob_ x.f5).length := by unfold loc8; simp only [List.length_append, cc_, ua_, List.length_cons, List.length_nil]
 rw [hl0] at hlen
 obtain ⟨D0, hD0⟩ : ∃ D, D = bs := ⟨_, rfl⟩
 have HE : Az (bs ++ loc8 x = D0 ++ txt8 x.f0 ++ fb_ [x.f1, x.f2] ++ pb_ ent8 x.f3 ++ pb_ fc_ x.f4 ++ pb_ ob_ x.f5) := ⟨by rw [hD0]; unfold loc8; simp only [List.append_assoc]⟩
 have hd0 : D0.length = bs.length := by rw [hD0]
 rw [← hD0] at h
 have HB0 : Az ((W.alloc (.cells #[.string x.f0, .int .i64 x.f1, .int .i64 x.f2, .slice A3 x.f3.length c3, .slice A4 x.f4.length c4, .slice A5 x.f5.length c5] 44)).heap[W.heap.size]? = some (.cells #[.string x.f0, .int .i64 x.f1, .int .i64 x.f2, .slice A3 x.f3.length c3, .slice A4 x.f4.length c4, .slice A5 x.f5.length c5] 44 (0, 0))) := ⟨ra_ W _⟩
 have HW0 : Az (WrAt w0 g D0 (W.alloc (.cells #[.string x.f0, .int .i64 x.f1, .int .i64 x.f2, .slice A3 x.f3.length c3, .slice A4 x.f4.length c4, .slice A5 x.f5.length c5] 44))) := ⟨h.grow (aa_ (Below.refl _ _) _)⟩
 have HK0 : Az (Kept8 g W (W.alloc (.cells #[.string x.f0, .int .i64 x.f1, .int .i64 x.f2, .slice A3 x.f3.length c3, .slice A4 x.f4.length c4, .slice A5 x.f5.length c5] 44))) := ⟨Kept8.below (aa_ (Below.refl _ _) _)⟩
 have hgb : W.heap.size ≠ g := by obtain ⟨_, _, hb, _⟩ := h.row; have := za_ hb; omega
 have HGB := aM_ hgb
 clear hgb
 have HLN := aM_ hlen
 have HD0 := aM_ hd0
 clear h hl0 hD0 hlen hd0
 have hmf : ∀ (fn : Fn) (first cap : Array Value) (w : World), (Instr.makeFunc fn first cap).run Tryz.prog w = .ok (.func fn first cap) w := fun _ _ _ _ => rfl
 go_enter Tryz.func34, Tryz.ntmps34
 go_wp2_with fail
 refine (ti_ w0 g D0 x.f0 (W.alloc (.cells #[.string x.f0, .int .i64 x.f1, .int .i64 x.f2, .slice A3 x.f3.length c3, .slice A4 x.f4.length c4, .slice A5 x.f5.length c5] 44)) HW0.out (by rw [HD0.out]; have := HLN.out; first | omega | (simp only [List.length_cons, List.length_nil, Nat.zero_add, Nat.reduceAdd]; omega))).mono ?_
 rintro e w1 ⟨rfl, hW, hK⟩
 have HD1 : Az ((D0 ++ txt8 x.f0).length = bs.length + (8 + x.f0.size)) := ⟨by first | (rw [List.length_append, HD0.out]; simp [ua_, cc_, zb_]; done) | rw [List.length_append, HD0.out]⟩
 generalize D0 ++ txt8 x.f0 = D1 at *
 have HW1 := aM_ hW
 have HK1 := aM_ (HK0.out.trans hK)
 have HB1 := aM_ (hK _ _ HB0.out HGB.out (fun cs z e => by injection e with _ e; exact absurd e (by decide)))
 clear hW hK HW0 HK0 HB0
 have hc1_0 := ba_ HB1.out 0
 have hc1_1 := ba_ HB1.out 1
 have hc1_2 := ba_ HB1.out 2
 have hc1_3 := ba_ HB1.out 3
 have hc1_4 := ba_ HB1.out 4
 have hc1_5 := ba_ HB1.out 5
 go_wp2_with fail
 have hnum := uc_ w0 g D1 [x.f1, x.f2] w1 HW1.out (by simp) (by rw [HD1.out]; have := HLN.out; first | omega | (simp only [List.length_cons, List.length_nil, Nat.zero_add, Nat.reduceAdd]; omega))
 refine hnum.mono ?_
 clear hnum
 rintro e w2 ⟨rfl, hW, hK⟩
 have HD2 : Az ((D1 ++ fb_ [x.f1, x.f2]).length = bs.length + (8 + x.f0.size) + 8 * 2) := ⟨by first | (rw [List.length_append, HD1.out]; simp [ua_, cc_, zb_]; done) | rw [List.length_append, HD1.out]⟩
 generalize D1 ++ fb_ [x.f1, x.f2] = D2 at *
 have HW2 := aM_ hW
 have HK2 := aM_ (HK1.out.trans hK)
 have HB2 := aM_ (hK _ _ HB1.out HGB.out (fun cs z e => by injection e with _ e; exact absurd e (by decide)))
 clear hW hK HW1 HK1 HB1
 clear hc1_0 hc1_1 hc1_2 hc1_3 hc1_4 hc1_5
 have hc2_0 := ba_ HB2.out 0
 have hc2_1 := ba_ HB2.out 1
 have hc2_2 := ba_ HB2.out 2
 have hc2_3 := ba_ HB2.out 3
 have hc2_4 := ba_ HB2.out 4
 have hc2_5 := ba_ HB2.out 5
 go_wp2_with fail
 refine (js_ w0 g D2 A3 c3 x.f3 w2 HW2.out hr3 hc3 (by rw [HD2.out]; have := HLN.out; first | omega | (simp only [List.length_cons, List.length_nil, Nat.zero_add, Nat.reduceAdd]; omega))).mono ?_
 rintro e w3 ⟨rfl, hW, hK⟩
 have HD3 : Az ((D2 ++ pb_ ent8 x.f3).length = bs.length + (8 + x.f0.size) + 8 * 2 + (pb_ ent8 x.f3).length) := ⟨by first | (rw [List.length_append, HD2.out]; simp [ua_, cc_, zb_]; done) | rw [List.length_append, HD2.out]⟩
 generalize D2 ++ pb_ ent8 x.f3 = D3 at *
 have HW3 := aM_ hW
 have HK3 := aM_ (HK2.out.trans hK)
 have HB3 := aM_ (hK _ _ HB2.out HGB.out (fun cs z e => by injection e with _ e; exact absurd e (by decide)))
 clear hW hK HW2 HK2 HB2
 clear hc2_0 hc2_1 hc2_2 hc2_3 hc2_4 hc2_5
 have hc3_0 := ba_ HB3.out 0
 have hc3_1 := ba_ HB3.out 1
 have hc3_2 := ba_ HB3.out 2
 have hc3_3 := ba_ HB3.out 3
 have hc3_4 := ba_ HB3.out 4
 have hc3_5 := ba_ HB3.out 5
 go_wp2_with fail
 refine (fs_ w0 g D3 A4 c4 x.f4 w3 HW3.out hr4 hc4 (by rw [HD3.out]; have := HLN.out; first | omega | (simp only [List.length_cons, List.length_nil, Nat.zero_add, Nat.reduceAdd]; omega))).mono ?_
 rintro e w4 ⟨rfl, hW, hK⟩
 have HD4 : Az ((D3 ++ pb_ fc_ x.f4).length = bs.length + (8 + x.f0.size) + 8 * 2 + (pb_ ent8 x.f3).length + (pb_ fc_ x.f4).length) := ⟨by first | (rw [List.length_append, HD3.out]; simp [ua_, cc_, zb_]; done) | rw [List.length_append, HD3.out]⟩
 generalize D3 ++ pb_ fc_ x.f4 = D4 at *
 have HW4 := aM_ hW
 have HK4 := aM_ (HK3.out.trans hK)
 have HB4 := aM_ (hK _ _ HB3.out HGB.out (fun cs z e => by injection e with _ e; exact absurd e (by decide)))
 clear hW hK HW3 HK3 HB3
 clear hc3_0 hc3_1 hc3_2 hc3_3 hc3_4 hc3_5
 have hc4_0 := ba_ HB4.out 0
 have hc4_1 := ba_ HB4.out 1
 have hc4_2 := ba_ HB4.out 2
 have hc4_3 := ba_ HB4.out 3
 have hc4_4 := ba_ HB4.out 4
 have hc4_5 := ba_ HB4.out 5
 go_wp2_with fail
 refine (es_ w0 g D4 A5 c5 x.f5 w4 HW4.out hr5 hc5 (by rw [HD4.out]; have := HLN.out; first | omega | (simp only [List.length_cons, List.length_nil, Nat.zero_add, Nat.reduceAdd]; omega))).mono ?_
 rintro e w5 ⟨rfl, hW, hK⟩
 have HD5 : Az ((D4 ++ pb_ ob_ x.f5).length = bs.length + (8 + x.f0.size) + 8 * 2 + (pb_ ent8 x.f3).length + (pb_ fc_ x.f4).length + (pb_ ob_ x.f5).length) := ⟨by first | (rw [List.length_append, HD4.out]; simp [ua_, cc_, zb_]; done) | rw [List.length_append, HD4.out]⟩
 generalize D4 ++ pb_ ob_ x.f5 = D5 at *
 have HW5 := aM_ hW
 have HK5 := aM_ (HK4.out.trans hK)
 have HB5 := aM_ (hK _ _ HB4.out HGB.out (fun cs z e => by injection e with _ e; exact absurd e (by decide)))
 clear hW hK HW4 HK4 HB4
 clear hc4_0 hc4_1 hc4_2 hc4_3 hc4_4 hc4_5
 go_wp2
 go_end0
 exact ⟨rfl, by rw [HE.out]; exact HW5.out, HK5.out⟩
theorem is_ (w0 : World) (g : Nat) (bs : List Int) (A : Option Addr) (c : Nat) (l : List S44) (W : World) (h : WrAt w0 g bs W) (hr : Kd.C k44 w0 A l.length l) (hc : l.length ≤ c) (hlen : bs.length + (pb_ loc8 l).length ≤ 1000000000000) :
  Calls Tryz.prog 33 #[.pointer (some ⟨g, 0, none⟩), .slice A l.length c, .func (.func 34) #[.pointer (some ⟨g, 0, none⟩)] #[]] W fun e W' => e = .returned (.tuple #[]) ∧ WrAt w0 g (bs ++ pb_ loc8 l) W' ∧ Kept8 g W W' := by
 have hl0 : (pb_ loc8 l).length = 8 + (l.flatMap loc8).length := by unfold pb_; rw [List.length_append, ua_]; rfl
 rw [hl0] at hlen
 have hnum := uc_ w0 g bs [(l.length : Int)] W h (by simp) (by simp; omega)
 have HN := aM_ hnum
 have HLN := aM_ hlen
 have HR := aM_ hr
 have hbn : l.length ≤ 9223372036854775807 := hr.2.1
 have HE : Az (bs ++ pb_ loc8 l = bs ++ fb_ [(l.length : Int)] ++ (l.take l.length).flatMap loc8) := ⟨by rw [List.take_length]; unfold pb_; rw [List.append_assoc]⟩
 clear hnum h hlen hl0 hr
 go_enter Tryz.func33, Tryz.ntmps33
 go_wp2_with fail
 refine HN.out.mono ?_
 rintro e w1 ⟨rfl, hW, hK⟩
 have HD : Az ((bs ++ fb_ [(l.length : Int)]).length = bs.length + 8) := ⟨by rw [List.length_append, ua_]; rfl⟩
 generalize bs ++ fb_ [(l.length : Int)] = D at *
 have HW0 : Az (WrAt w0 g (D ++ (l.take 0).flatMap loc8) w1) := ⟨by rw [List.take_zero]; show WrAt w0 g (D ++ []) w1; rw [List.append_nil]; exact hW⟩
 have HK0 := aM_ hK
 clear hW hK HN
 go_wp2
 go_loopg [15] l.length (fun gg s15 wr => ∃ i : Nat, i ≤ l.length ∧ l.length - i ≤ gg ∧ s15 = .int .i64 i ∧ Az (WrAt w0 g (D ++ (l.take i).flatMap loc8) wr) ∧ Az (Kept8 g W wr))
 case atStart => exact ⟨0, by omega, by omega, rfl, HW0, HK0⟩
 clear HW0 HK0
 obtain ⟨i, hi, hgg, rfl, HW, HK⟩ := hrel
 by_cases hil : i < l.length
 ·have hilz : (i : Int) < (l.length : Int) := by omega
  obtain ⟨ad, A3, c3, A4, c4, A5, c5, hA, h0, h1, h2, h3, h4, h5, l3, g3, l4, g4, l5, g5⟩ := lg_ HR.out (i : Int) (by omega) hilz; subst hA
  have hy : ya_ l (i : Int) = l[i] := by
   show l.getD (i : Int).toNat _ = _; rw [Int.toNat_natCast, List.getD_eq_getElem?_getD, List.getElem?_eq_getElem hil]; rfl
  have hsn := md_ loc8 l i hil; have hle := ze_ loc8 l i hil; rw [← hy] at hsn hle; generalize ya_ l (i : Int) = y at *; rw [Int.toNat_natCast] at h0 h1 h2 h3 h4 h5; replace h0 := ha_ HW.out.below h0; replace h1 := ha_ HW.out.below h1; replace h2 := ha_ HW.out.below h2; replace h3 := ha_ HW.out.below h3; replace h4 := ha_ HW.out.below h4; replace h5 := ha_ HW.out.below h5; have HSN := aM_ hsn; have hlb : (D ++ (l.take i).flatMap loc8).length + (loc8 y).length ≤ 1000000000000 := by rw [List.length_append, HD.out]; have := HLN.out; omega
  have HLB := aM_ hlb; have HW1 := aM_ (HW.out.grow (aa_ (Below.refl _ _) (.cells #[.string y.f0, .int .i64 y.f1, .int .i64 y.f2, .slice A3 y.f3.length c3, .slice A4 y.f4.length c4, .slice A5 y.f5.length c5] 44))); have HK1 := aM_ (HK.out.trans (Kept8.below (g := g) (aa_ (Below.refl wr.heap.size wr) (.cells #[.string y.f0, .int .i64 y.f1, .int .i64 y.f2, .slice A3 y.f3.length c3, .slice A4 y.f4.length c4, .slice A5 y.f5.length c5] 44)))); obtain ⟨E, hE⟩ : ∃ E, E = D ++ (l.take i).flatMap loc8 := ⟨_, rfl⟩; rw [← hE] at HW1 HLB; have HEE := aM_ hE; clear hy hsn hle hlb HW HK hE
  go_wp2_with fail
  refine (zo_ w0 g E y A3 c3 A4 c4 A5 c5 _ HW1.out g3 l3 g4 l4 g5 l5 HLB.out).mono ?_; rintro e w2 ⟨rfl, hW, hK⟩; have HW2 : Az (WrAt w0 g (D ++ (l.take (i + 1)).flatMap loc8) w2) := ⟨by rw [HSN.out, ← List.append_assoc, ← HEE.out]; exact hW⟩; have HK2 := aM_ (HK1.out.trans hK); clear hW hK HW1 HK1 h0 h1 h2 h3 h4 h5
  go_wp2
  go_roundg (l.length - (i + 1))
  case measure => omega
  case rel => exact ⟨i + 1, by omega, by omega, by go_num, HW2, HK2⟩
 have he : i = l.length := by omega
 have hilz : decide ((i : Int) < (l.length : Int)) = false := by simp; omega
 rw [he] at HW
 clear he
 go_wp2
 go_end0
 exact ⟨rfl, by rw [HE.out]; exact HW.out, HK.out⟩
theorem yq_ (A0 : Option Addr) (c0 : Nat) (l0 : List Int) (w : World) (hr0 : Kd.C (Kd.int .u8) w A0 l0.length l0) (hc0 : l0.length ≤ c0) (hl : l0.length ≤ 1000000000000) :
  Calls Tryz.prog 35 #[.slice A0 l0.length c0] w fun e w' => ∃ v0_ : Value, e = .returned (v0_) ∧ Kd.R (Kd.int .u8) 5 w' w.heap.size (fun _ => True) v0_ l0 ∧ Below w.heap.size w w' := by
 have q22 : ∀ (w : World) (a : Option Addr) (n c n' c' : Nat), (binOp .eql 28 (.slice a n c) (.slice none n' c')).run Tryz.prog w = .ok (.bool a.isNone) w := fun w a n c n' c' => Lib.run_eql_slice_nil w _ _ a n c n' c' Tryz.underlying28
 have HR := aM_ hr0
 have HL := aM_ hl
 clear hr0 hl
 cases A0 with
 | none =>
  have h0 : l0 = [] := by
   cases l0 with
   | nil => rfl
   | cons x l => obtain ⟨ad, e, _⟩ := HR.out.2.2 (by simp); cases e
  subst h0
  go_enter Tryz.func35, Tryz.ntmps35
  go_wp2
  go_ret
  exact ⟨_, rfl, Kd.R_nil _ _ _ _ _, Below.refl _ _⟩
 | some ad =>
  go_enter Tryz.func35, Tryz.ntmps35
  go_wp2_with (at_builtin; go_loud (refine Kd.R_append_row (Value.int .u8) 0 (h1 := fun _ => rfl) (w0 := w) w.heap.size rfl (.tmp 5) (.tmp 6) 28 5 (.int .u8 0) 1 rfl Tryz.underlying28 zn_ rfl (by decide) (.slice (some ⟨w.heap.size, 0, none⟩) 0 0) [] l0 (some ad) l0.length c0 (fun _ => True) rfl rfl (fun _ _ => trivial) ?hO ?hR ?hB ?hb ?hl ?_); (case hO => go_loud (exact Kd.R_of_own (World.ownsRow_made w #[] 0 (Nat.le_refl _) (Nat.zero_le _) rfl) (fun _ _ => trivial))); (case hR => go_loud (exact Kd.C_alloc HR.out _)); (case hB => exact aa_ (Below.refl _ _) _); (case hb => go_loud (simp)); (case hl => go_loud (have := HL.out; simp; omega)); intro v1 w1 ho hb hg hat)
  have ho' : Kd.R (Kd.int .u8) 5 w1 w.heap.size (fun _ => True) v1 l0 := ho; have HO := aM_ ho'; have HB := aM_ hb; clear ho ho' hb hg hat
  go_wp2
  go_ret
  exact ⟨_, rfl, HO.out, HB.out⟩
def enc8 (l : List S44) : List Int := pb_ loc8 l
theorem dp_ (A : Option Addr) (c : Nat) (l : List S44) (w : World) (hr : Kd.C k44 w A l.length l) (hc : l.length ≤ c) (hlen : (enc8 l).length ≤ 1000000000000) :
  Calls Tryz.prog 14 #[.slice A l.length c] w fun e w' => ∃ v : Value, e = .returned v ∧ Kd.R (Kd.int .u8) 5 w' w.heap.size (fun _ => True) v (enc8 l) ∧ Below w.heap.size w w' := by
 have hmf : ∀ (fn : Fn) (first cap : Array Value) (w : World), (Instr.makeFunc fn first cap).run Tryz.prog w = .ok (.func fn first cap) w := fun _ _ _ _ => rfl
 have HW0 : Az (WrAt w w.heap.size [] (w.alloc (.cells #[.slice none 0 0] 76))) := ⟨⟨⟨none, 0, ra_ w _, Kd.R_nil _ _ _ _ _⟩, aa_ (Below.refl _ _) _, Nat.le_refl _⟩⟩
 have HL := aM_ (is_ w w.heap.size [] A c l _ HW0.out hr hc (by show 0 + _ ≤ _; rw [Nat.zero_add]; exact hlen))
 have HLN := aM_ hlen
 clear hr hlen
 go_enter Tryz.func14, Tryz.ntmps14
 go_wp2_with fail
 refine HL.out.mono ?_
 rintro e w1 ⟨rfl, hW, _⟩
 have hW' : WrAt w w.heap.size (enc8 l) w1 := hW
 obtain ⟨A', c', hblk, hrow⟩ := hW'.row
 have r0 : w1.cell? ⟨w.heap.size, 0, none⟩ = some (.slice A' (enc8 l).length c') := ba_ hblk 0
 have HB := aM_ hW'.below
 have hrr := Kd.R_reads' hrow
 have HCL := aM_ (yq_ A' c' (enc8 l) w1 hrr.2.2 hrr.2.1 HLN.out)
 clear hW hW' hblk hrow hrr HL
 go_wp2_with fail
 refine HCL.out.mono ?_
 rintro e w2 ⟨v, rfl, hR, hB2⟩
 have HR2 := aM_ (Kd.R_lower hR HB.out.size)
 have HB2 := aM_ (fa_ HB.out hB2)
 clear hR hB2
 go_wp2
 go_ret
 exact ⟨_, rfl, HR2.out, HB2.out⟩
theorem sn_ {l : List Int} {n : Int} {r : List Int} (hf : r5_num.f 9 l n = some r) : ∀ {k : Nat}, 9 ≤ k → r5_num.f k l n = some r := by
 intro k hk
 obtain ⟨d, rfl⟩ : ∃ d, k = 9 + d := ⟨k - 9, by omega⟩
 induction d with
 | zero => exact hf
 | succ d ih => exact r5_num.mono l n (9 + d) r (ih (by omega))
theorem ints5_l0 (l1 : List Int) (hn : l1.length ≤ 1000000000000) : ∀ (m i : Nat) (x : List Int), i + m = l1.length → x.length + 8 * m ≤ 1000000000000 → r5_ints.l0 (m + 10) x l1 (i : Int) = some (x ++ fb_ (l1.drop i)) := by
 intro m
 induction m with
 | zero =>
  intro i x hi hx; rw [show 0 + 10 = 9 + 1 from rfl, r5_ints.l0, if_neg (by omega), List.drop_eq_nil_of_le (by omega)]; show some x = some (x ++ [])
  rw [List.append_nil]
 | succ m ih =>
  intro i x hi hx; have hlt : i < l1.length := by omega
  have hr : rd l1 (i : Int) = l1[i] := by
   unfold rd; rw [Int.toNat_natCast, List.getD_eq_getElem?_getD, List.getElem?_eq_getElem hlt]; rfl
  have hf : r5_num.f (m + 10) x l1[i] = some (x ++ num8 l1[i]) := by
   have h9 := zr_ x l1[i] (by omega); exact sn_ h9 (by omega)
  rw [show m + 1 + 10 = (m + 10) + 1 by omega, r5_ints.l0, if_pos (by omega), if_pos (by omega), hr, hf, Option.bind_some, show wrap64 ((i : Int) + 1) = ((i + 1 : Nat) : Int) from by rw [wrap64]; omega, ih (i + 1) _ (by omega) (by rw [List.length_append, rb_]; omega), List.drop_eq_getElem_cons hlt, List.append_assoc]; rfl
theorem ints5_f (l0 l1 : List Int) (hl : l0.length + (xc_ l1).length ≤ 1000000000000) : r5_ints.f (l1.length + 10) l0 l1 = some (l0 ++ xc_ l1) := by
 have hln : (xc_ l1).length = 8 + 8 * l1.length := by
  unfold xc_; rw [List.length_append, ua_, ua_]; rfl
 unfold r5_ints.f
 have h9 : r5_num.f (l1.length + 10) l0 (l1.length : Int) = some (l0 ++ num8 (l1.length : Int)) := sn_ (zr_ l0 (l1.length : Int) (by omega)) (by omega)
 have h0 := ints5_l0 l1 (by omega) l1.length 0 (l0 ++ num8 (l1.length : Int)) (by omega) (by rw [List.length_append, rb_]; omega)
 rw [h9, Option.bind_some]
 refine h0.trans ?_
 rw [List.drop_zero]
 unfold xc_ fb_
 simp
theorem rt_ (w0 : World) (v : Value) (bs : List Int) (A : Option Addr) (c : Nat) (l : List Int) (W : World) (h : Row5 w0 v bs W) (hr : Kd.C (Kd.int .i64) w0 A l.length l) (hc : l.length ≤ c) (hl : bs.length + (xc_ l).length ≤ 1000000000000) :
  Calls Tryz.prog 104 #[v, .slice A l.length c] W fun e W' => ∃ v', e = .returned v' ∧ Row5 w0 v' (bs ++ xc_ l) W' ∧ KeptT W W' := by
 have h1 : Kd.R (Kd.int .u8) 5 W w0.heap.size (fun k => v.ownBlock = some k) v bs := ⟨fun k hk => hk, h.1.2.imp_ (fun _ _ hm => hm)⟩
 refine (r5_ints.calls (l.length + 10) _ v bs A c l _ w0 W h.2 h1 (Kd.C_kept_came (Kd.heap_int .i64) hr h.2 (fun k hk => Kd.R_base h.1 k hk)) hc (ints5_f bs l hl)).mono ?_
 rintro e W' ⟨v', rfl, hr, hb, hk⟩
 refine ⟨v', rfl, ⟨Kd.R_mono hr (fun _ _ => trivial), hb⟩, fun g t cs ht hg => ?_⟩
 exact (hk.2 g (za_ hg) (fun he => Kd.R_ne h.1 hg ht he.symm)).trans hg
theorem cs_ (w0 : World) (v0 : Value) (bs : List Int) (x : S44) (A3 A4 A5 : Option Addr) (c3 c4 c5 : Nat) (W : World) (h : Row5 w0 v0 bs W) (hr3 : Kd.C k46 w0 A3 x.f3.length x.f3) (hc3 : x.f3.length ≤ c3) (hr4 : Kd.C k56 w0 A4 x.f4.length x.f4) (hc4 : x.f4.length ≤ c4) (hr5 : Kd.C k52 w0 A5 x.f5.length x.f5) (hc5 : x.f5.length ≤ c5) (hl : bs.length + (loc8 x).length ≤ 1000000000000) :
  Calls Tryz.prog 50 #[v0, .agg #[.string x.f0, .int .i64 x.f1, .int .i64 x.f2, .slice A3 x.f3.length c3, .slice A4 x.f4.length c4, .slice A5 x.f5.length c5]] W fun e W' => ∃ v', e = .returned v' ∧ Row5 w0 v' (bs ++ loc8 x) W' ∧ KeptT W W' := by
 obtain ⟨f0, f1, f2, f3, f4, f5⟩ := x
 simp only at hr3 hc3 hr4 hc4 hr5 hc5
 have hE8 : loc8 ⟨f0, f1, f2, f3, f4, f5⟩ = txt8 f0 ++ num8 f1 ++ num8 f2 ++ num8 f3.length ++ f3.flatMap ent8 ++ num8 f4.length ++ f4.flatMap fc_ ++ num8 f5.length ++ f5.flatMap ob_ := by
  unfold loc8 pb_ fb_; simp
 have hLen : bs.length + ((txt8 f0).length + 8 + 8 + 8 + (f3.flatMap ent8).length + 8 + (f4.flatMap fc_).length + 8 + (f5.flatMap ob_).length) ≤ 1000000000000 := by
  rw [hE8] at hl; simp only [List.length_append, rb_] at hl; omega
 have HE8 : Az (bs ++ loc8 ⟨f0, f1, f2, f3, f4, f5⟩ = (bs ++ txt8 f0 ++ num8 f1 ++ num8 f2 ++ num8 f3.length) ++ (f3.take f3.length).flatMap ent8 ++ num8 f4.length ++ (f4.take f4.length).flatMap fc_ ++ num8 f5.length ++ (f5.take f5.length).flatMap ob_) := ⟨by rw [hE8, List.take_length, List.take_length, List.take_length]; simp only [List.append_assoc]⟩
 generalize bs ++ loc8 ⟨f0, f1, f2, f3, f4, f5⟩ = Z at *
 have HLN := aM_ hLen
 have HC := aM_ hr3
 have HC4 := aM_ hr4
 have HC5 := aM_ hr5
 have hbn : f3.length ≤ 9223372036854775807 := hr3.2.1
 have hbn4 : f4.length ≤ 9223372036854775807 := hr4.2.1
 have hbn5 : f5.length ≤ 9223372036854775807 := hr5.2.1
 have hu1 := Tryz.underlying44
 have hu2 := Tryz.underlying46
 have hu3 := Tryz.underlying56
 have hu4 := Tryz.underlying52
 have hu5 := Tryz.underlying48
 have hu6 := Tryz.underlying54
 have HKW : Az (KeptT W (W.alloc (.cells #[.string f0, .int .i64 f1, .int .i64 f2, .slice A3 f3.length c3, .slice A4 f4.length c4, .slice A5 f5.length c5] 44))) := ⟨KeptT.below (aa_ (Below.refl _ _) _)⟩
 have HR0 : Az (Row5 w0 v0 bs (W.alloc (.cells #[.string f0, .int .i64 f1, .int .i64 f2, .slice A3 f3.length c3, .slice A4 f4.length c4, .slice A5 f5.length c5] 44))) := ⟨⟨Kd.R_alloc h.1 _, fa_ h.2 (aa_ (Below.refl _ _) _)⟩⟩
 have HBK : Az ((W.alloc (.cells #[.string f0, .int .i64 f1, .int .i64 f2, .slice A3 f3.length c3, .slice A4 f4.length c4, .slice A5 f5.length c5] 44)).heap[W.heap.size]? = some (.cells #[.string f0, .int .i64 f1, .int .i64 f2, .slice A3 f3.length c3, .slice A4 f4.length c4, .slice A5 f5.length c5] 44 (0, 0))) := ⟨ra_ W _⟩
 have HL0 : Az (bs.length + (txt8 f0).length ≤ 1000000000000) := ⟨by omega⟩
 have HL1 : Az ((bs ++ txt8 f0).length + 8 ≤ 1000000000000) := ⟨by simp only [List.length_append]; omega⟩
 have HL2 : Az ((bs ++ txt8 f0 ++ num8 f1).length + 8 ≤ 1000000000000) := ⟨by simp only [List.length_append, rb_]; omega⟩
 have HL3 : Az ((bs ++ txt8 f0 ++ num8 f1 ++ num8 f2).length + 8 ≤ 1000000000000) := ⟨by simp only [List.length_append, rb_]; omega⟩
 have HD : Az ((bs ++ txt8 f0 ++ num8 f1 ++ num8 f2 ++ num8 f3.length).length + (f3.flatMap ent8).length + 8 + (f4.flatMap fc_).length + 8 + (f5.flatMap ob_).length ≤ 1000000000000) := ⟨by simp only [List.length_append, rb_]; omega⟩
 clear h hr3 hc3 hr4 hc4 hr5 hc5 hl hLen hE8
 go_enter Tryz.func50, Tryz.ntmps50
 go_wp2_with fail
 generalize W.alloc (.cells #[.string f0, .int .i64 f1, .int .i64 f2, .slice A3 f3.length c3, .slice A4 f4.length c4, .slice A5 f5.length c5] 44) = W1 at *
 generalize W.heap.size = g at *
 have h0 : W1.cell? ⟨g, 0, none⟩ = some (.string f0) := ba_ HBK.out 0
 have h1 : W1.cell? ⟨g, 1, none⟩ = some (.int .i64 f1) := ba_ HBK.out 1
 have h2 : W1.cell? ⟨g, 2, none⟩ = some (.int .i64 f2) := ba_ HBK.out 2
 have h3 : W1.cell? ⟨g, 3, none⟩ = some (.slice A3 f3.length c3) := ba_ HBK.out 3
 have HK0 : Az (KeptT W W1) := HKW
 generalize hbs : bs = X at *
 refine wd_ (n := 15) (S := fun w' => w'.cell? ⟨g, 0, none⟩ = some (.string f0) ∧ w'.cell? ⟨g, 1, none⟩ = some (.int .i64 f1) ∧ w'.cell? ⟨g, 2, none⟩ = some (.int .i64 f2) ∧ w'.cell? ⟨g, 3, none⟩ = some (.slice A3 f3.length c3) ∧ Az (w'.heap[g]? = some (.cells #[.string f0, .int .i64 f1, .int .i64 f2, .slice A3 f3.length c3, .slice A4 f4.length c4, .slice A5 f5.length c5] 44 (0, 0)))) (ds := []) (f_ 15 0) (by kernel_rfl) rfl rfl ⟨h0, h1, h2, h3, HBK⟩ (fun hHeld => ?_)
 replace HR0 : Az (Row5 w0 v0 X W1.drew) := ⟨⟨Kd.R_drew HR0.out.1, ga_ HR0.out.2⟩⟩
 replace HK0 : Az (KeptT W W1.drew) := ⟨HK0.out⟩
 generalize W1.drew = w9 at *
 refine pU_ 0 11 ?_ (f_ 15 1) rfl rfl (by kernel_rfl) (fun _ _ _ h => h) (by rfl) ?_ ?_ ?_ ?_
 rotate_left
 ·intro w'
  go_simp; try with_reducible rfl
 rotate_left
 ·simp only [Act.put, s1_, s2_, s3_, ia_, ja_]
  rfl
 refine pU_ 1 12 ?_ (f_ 15 2) rfl rfl (by kernel_rfl) (fun _ _ _ h => h) (by rfl) ?_ ?_ ?_ ?_
 rotate_left
 ·intro w'
  go_simp; try with_reducible rfl
 rotate_left
 ·simp only [Act.put, s1_, s2_, s3_, ia_, ja_]
  rfl
 refine tA_ 2 13 ?_ (f_ 15 3) rfl rfl (by kernel_rfl) (fun _ _ _ h => h) (by rfl) ?_ hHeld ?_ ?_ ?_
 rotate_left
 ·rintro w' ⟨s0, s1, s2, s3, s4⟩
  go_simp; try with_reducible rfl
 rotate_left
 ·simp only [Act.put, s1_, s2_, s3_, ia_, ja_]
  rfl
 refine pU_ 4 15 ?_ #[true, true, true, false, true, false, false, false, false, false, false, false, false, false, false] rfl rfl (by kernel_rfl) (fun _ _ _ h => h) (by rfl) ?_ ?_ ?_ ?_
 rotate_left
 ·intro w'
  go_simp; try with_reducible rfl
 rotate_left
 ·simp only [Act.put, s1_, s2_, s3_, ia_, ja_]
  rfl
 refine tA_ 5 16 ?_ #[true, true, true, false, true, true, false, false, false, false, false, false, false, false, false] rfl rfl (by kernel_rfl) (fun _ _ _ h => h) (by rfl) ?_ hHeld ?_ ?_ ?_
 rotate_left
 ·rintro w' ⟨s0, s1, s2, s3, s4⟩
  go_simp; try with_reducible rfl
 rotate_left
 ·simp only [Act.put, s1_, s2_, s3_, ia_, ja_]
  rfl
 refine pU_ 7 18 ?_ #[true, true, true, false, true, true, false, true, false, false, false, false, false, false, false] rfl rfl (by kernel_rfl) (fun _ _ _ h => h) (by rfl) ?_ ?_ ?_ ?_
 rotate_left
 ·intro w'
  go_simp; try with_reducible rfl
 rotate_left
 ·simp only [Act.put, s1_, s2_, s3_, ia_, ja_]
  rfl
 refine tA_ 8 19 ?_ #[true, true, true, false, true, true, false, true, true, false, false, false, false, false, false] rfl rfl (by kernel_rfl) (fun _ _ _ h => h) (by rfl) ?_ hHeld ?_ ?_ ?_
 rotate_left
 ·rintro w' ⟨s0, s1, s2, s3, s4⟩
  go_simp; try with_reducible rfl
 rotate_left
 ·simp only [Act.put, s1_, s2_, s3_, ia_, ja_]
  rfl
 refine pU_ 10 21 ?_ #[true, true, true, false, true, true, false, true, true, false, true, false, false, false, false] rfl rfl (by kernel_rfl) (fun _ _ _ h => h) (by rfl) ?_ ?_ ?_ ?_
 rotate_left
 ·intro w'
  go_simp; try with_reducible rfl
 rotate_left
 ·simp only [Act.put, s1_, s2_, s3_, ia_, ja_]
  rfl
 refine tA_ 11 22 ?_ #[true, true, true, false, true, true, false, true, true, false, true, true, false, false, false] rfl rfl (by kernel_rfl) (fun _ _ _ h => h) (by rfl) ?_ hHeld ?_ ?_ ?_
 rotate_left
 ·rintro w' ⟨s0, s1, s2, s3, s4⟩
  go_simp; try with_reducible rfl
 rotate_left
 ·simp only [Act.put, s1_, s2_, s3_, ia_, ja_]
  rfl
 refine pU_ 12 23 ?_ #[true, true, true, false, true, true, false, true, true, false, true, true, true, false, false] rfl rfl (by kernel_rfl) (fun _ _ _ h => h) (by rfl) ?_ ?_ ?_ ?_
 rotate_left
 ·intro w'
  go_simp; try with_reducible rfl
 rotate_left
 ·simp only [Act.put, s1_, s2_, s3_, ia_, ja_]
  rfl
 refine one_ (i := 3) (N := some 14) #[true, true, true, true, true, true, false, true, true, false, true, true, true, false, false] rfl rfl (by kernel_rfl) (by decide) (fun K hK => ?_)
 refine wb_ Tryz.func103 (by kernel_rfl) rfl #[v0, .string f0] (by rfl) rfl rfl (by (try simp only [List.map_toArray, List.map_cons, List.map_nil]); rfl) ?_
 refine (io_ w0 v0 X f0 _ HR0.out HL0.out).mono ?_
 rintro e w1 ⟨v1, rfl, hr, hk⟩
 have HR1 := aM_ hr
 have HK1 := aM_ (HK0.out.trans hk)
 refine ⟨_, rfl, ?_⟩
 refine hK.out _ _ ⟨(ba_ (hk _ _ _ (by decide) hHeld.2.2.2.2.out) 0).trans rfl, (ba_ (hk _ _ _ (by decide) hHeld.2.2.2.2.out) 1).trans rfl, (ba_ (hk _ _ _ (by decide) hHeld.2.2.2.2.out) 2).trans rfl, (ba_ (hk _ _ _ (by decide) hHeld.2.2.2.2.out) 3).trans rfl, ⟨(hk _ _ _ (by decide) hHeld.2.2.2.2.out)⟩⟩ (fun hHeld => ?_)
 clear hK K
 refine wa_ (a' := ?_) ?_ ?_
 rotate_left
 ·show Act.put _ (some 14) _ = _
  simp only [Act.put, s1_, s2_, s3_, ia_, ja_]; rfl
 refine one_ (i := 6) (N := some 17) #[true, true, true, true, true, true, true, true, true, false, true, true, true, false, false] rfl rfl (by kernel_rfl) (by decide) (fun K hK => ?_)
 refine wb_ Tryz.func49 (by kernel_rfl) rfl #[v1, .int .i64 f1] (by rfl) rfl rfl (by (try simp only [List.map_toArray, List.map_cons, List.map_nil]); rfl) ?_
 refine (ke_ w0 v1 (X ++ txt8 f0) f1 _ HR1.out HL1.out).mono ?_
 rintro e w2 ⟨v2, rfl, hr, hk⟩
 have HR2 := aM_ hr
 have HK2 := aM_ (HK1.out.trans hk)
 refine ⟨_, rfl, ?_⟩
 refine hK.out _ _ ⟨(ba_ (hk _ _ _ (by decide) hHeld.2.2.2.2.out) 0).trans rfl, (ba_ (hk _ _ _ (by decide) hHeld.2.2.2.2.out) 1).trans rfl, (ba_ (hk _ _ _ (by decide) hHeld.2.2.2.2.out) 2).trans rfl, (ba_ (hk _ _ _ (by decide) hHeld.2.2.2.2.out) 3).trans rfl, ⟨(hk _ _ _ (by decide) hHeld.2.2.2.2.out)⟩⟩ (fun hHeld => ?_)
 clear hK K
 refine wa_ (a' := ?_) ?_ ?_
 rotate_left
 ·show Act.put _ (some 17) _ = _
  simp only [Act.put, s1_, s2_, s3_, ia_, ja_]; rfl
 refine one_ (i := 9) (N := some 20) (f_ 15 13) rfl rfl (by kernel_rfl) (by decide) (fun K hK => ?_)
 refine wb_ Tryz.func49 (by kernel_rfl) rfl #[v2, .int .i64 f2] (by rfl) rfl rfl (by (try simp only [List.map_toArray, List.map_cons, List.map_nil]); rfl) ?_
 refine (ke_ w0 v2 (X ++ txt8 f0 ++ num8 f1) f2 _ HR2.out HL2.out).mono ?_
 rintro e w3 ⟨v3, rfl, hr, hk⟩
 have HR3 := aM_ hr
 have HK3 := aM_ (HK2.out.trans hk)
 refine ⟨_, rfl, ?_⟩
 refine hK.out _ _ ⟨(ba_ (hk _ _ _ (by decide) hHeld.2.2.2.2.out) 0).trans rfl, (ba_ (hk _ _ _ (by decide) hHeld.2.2.2.2.out) 1).trans rfl, (ba_ (hk _ _ _ (by decide) hHeld.2.2.2.2.out) 2).trans rfl, (ba_ (hk _ _ _ (by decide) hHeld.2.2.2.2.out) 3).trans rfl, ⟨(hk _ _ _ (by decide) hHeld.2.2.2.2.out)⟩⟩ (fun hHeld => ?_)
 clear hK K
 refine wa_ (a' := ?_) ?_ ?_
 rotate_left
 ·show Act.put _ (some 20) _ = _
  simp only [Act.put, s1_, s2_, s3_, ia_, ja_]; rfl
 refine one_ (i := 13) (N := some 24) (f_ 15 14) rfl rfl (by kernel_rfl) (by decide) (fun K hK => ?_)
 refine wb_ Tryz.func49 (by kernel_rfl) rfl #[v3, .int .i64 (f3.length : Int)] (by rfl) rfl rfl (by (try simp only [List.map_toArray, List.map_cons, List.map_nil]); rfl) ?_
 refine (ke_ w0 v3 (X ++ txt8 f0 ++ num8 f1 ++ num8 f2) (f3.length : Int) _ HR3.out HL3.out).mono ?_
 rintro e w4 ⟨v4, rfl, hr, hk⟩
 have HR4 := aM_ hr
 have HK4 := aM_ (HK3.out.trans hk)
 refine ⟨_, rfl, ?_⟩
 refine hK.out _ _ ⟨(ba_ (hk _ _ _ (by decide) hHeld.2.2.2.2.out) 0).trans rfl, (ba_ (hk _ _ _ (by decide) hHeld.2.2.2.2.out) 1).trans rfl, (ba_ (hk _ _ _ (by decide) hHeld.2.2.2.2.out) 2).trans rfl, (ba_ (hk _ _ _ (by decide) hHeld.2.2.2.2.out) 3).trans rfl, ⟨(hk _ _ _ (by decide) hHeld.2.2.2.2.out)⟩⟩ (fun hHeld => ?_)
 clear hK K
 refine wa_ (a' := ?_) ?_ ?_
 rotate_left
 ·show Act.put _ (some 24) _ = _
  simp only [Act.put, s1_, s2_, s3_, ia_, ja_]; rfl
 refine pU_ 14 0 ?_ (f_ 15 15) rfl rfl (by kernel_rfl) (fun _ _ _ h => h) (by rfl) ?_ ?_ ?_ ?_
 rotate_left
 ·intro w'
  go_simp; try with_reducible rfl
 rotate_left
 ·simp only [Act.put, s1_, s2_, s3_, ia_, ja_]
  rfl
 refine je_ (by kernel_rfl) ?_
 have HBK4 := hHeld.2.2.2.2
 generalize hDD : X ++ txt8 f0 ++ num8 f1 ++ num8 f2 ++ num8 (f3.length : Int) = D at *
 have HR5 : Az (Row5 w0 v4 (D ++ (f3.take 0).flatMap ent8) w4) := ⟨by rw [List.take_zero]; show Row5 w0 v4 (D ++ []) w4; rw [List.append_nil]; exact HR4.out⟩
 clear hHeld HR0 HR1 HR2 HR3 HR4 HL0 HL1 HL2 HL3 hDD h0 h1 h2 h3 hbs HK0 HK1 HK2 HK3 HBK HKW
 go_wp2_with fail
 go_loopg [5, 0] f3.length (fun gg s5 s0 wr => ∃ i : Nat, i ≤ f3.length ∧ f3.length - i ≤ gg ∧ s5 = .int .i64 i ∧ Az (Row5 w0 s0 (D ++ (f3.take i).flatMap ent8) wr) ∧ Az (wr.heap[g]? = some (.cells #[.string f0, .int .i64 f1, .int .i64 f2, .slice A3 f3.length c3, .slice A4 f4.length c4, .slice A5 f5.length c5] 44 (0, 0))) ∧ Az (KeptT W wr))
 case atStart => exact ⟨0, by omega, by omega, rfl, HR5, HBK4, HK4⟩
 generalize u0 = v5 at *
 clear HR5 HBK4 HK4
 obtain ⟨i, hi, hgg, rfl, HR5, HBK, HK5⟩ := hrel
 by_cases hil : i < f3.length
 ·have hilz : (i : Int) < (f3.length : Int) := by omega
  obtain ⟨ad, hA, e0, e1, e2⟩ := bt_ HC.out (i : Int) (by omega) hilz; subst hA; rw [Int.toNat_natCast] at e0 e1 e2
  have hy : ve_ f3 (i : Int) = f3[i] := by
   show f3.getD (i : Int).toNat _ = _; rw [Int.toNat_natCast, List.getD_eq_getElem?_getD, List.getElem?_eq_getElem hil]; rfl
  have hsn := md_ ent8 f3 i hil; have hle := ze_ ent8 f3 i hil; rw [← hy] at hsn hle; have he8 : ent8 (ve_ f3 (i : Int)) = txt8 (ve_ f3 (i : Int)).f0 ++ num8 (ve_ f3 (i : Int)).f1 ++ num8 (ve_ f3 (i : Int)).f2 := by unfold ent8 fb_; simp
  rw [he8] at hsn hle; generalize (ve_ f3 (i : Int)).f0 = y0 at *; generalize (ve_ f3 (i : Int)).f1 = y1 at *; generalize (ve_ f3 (i : Int)).f2 = y2 at *; have E0 := aM_ e0; have E1 := aM_ e1; have E2 := aM_ e2; simp only [List.length_append, rb_] at hle; have hxl : (D ++ (f3.take i).flatMap ent8).length + (txt8 y0).length + 16 ≤ 1000000000000 := by rw [List.length_append]; have := HD.out; omega
  have HSN : Az (D ++ (f3.take (i + 1)).flatMap ent8 = D ++ (f3.take i).flatMap ent8 ++ txt8 y0 ++ num8 y1 ++ num8 y2) := ⟨by rw [hsn]; simp only [List.append_assoc]⟩; generalize D ++ (f3.take i).flatMap ent8 = X at *; have HL5 : Az (X.length + (txt8 y0).length ≤ 1000000000000) := ⟨by omega⟩; have HL6 : Az ((X ++ txt8 y0).length + 8 ≤ 1000000000000) := ⟨by simp only [List.length_append]; omega⟩; have HL7 : Az ((X ++ txt8 y0 ++ num8 y1).length + 8 ≤ 1000000000000) := ⟨by simp only [List.length_append, rb_]; omega⟩; have hc3 : wr.cell? ⟨g, 3, none⟩ = some (.slice (some ad) f3.length c3) := ba_ HBK.out 3; have he0 := ha_ HR5.out.2 e0; have he1 := ha_ HR5.out.2 e1; have he2 := ha_ HR5.out.2 e2; clear hy hsn hle he8 hxl e0 e1 e2
  go_wp2_with fail
  refine wd_ (n := 23) (S := fun w' => w'.cell? ⟨g, 3, none⟩ = some (.slice (some ad) f3.length c3) ∧ w'.cell? (ad.add (i * 3)) = some (.string y0) ∧ w'.cell? ⟨(ad.add (i * 3)).block, (ad.add (i * 3)).off + 1, none⟩ = some (.int .i64 y1) ∧ w'.cell? ⟨(ad.add (i * 3)).block, (ad.add (i * 3)).off + 2, none⟩ = some (.int .i64 y2) ∧ Az (w'.heap[g]? = some (.cells #[.string f0, .int .i64 f1, .int .i64 f2, .slice (some ad) f3.length c3, .slice A4 f4.length c4, .slice A5 f5.length c5] 44 (0, 0)))) (ds := []) (f_ 23 0) (by kernel_rfl) rfl rfl ⟨hc3, he0, he1, he2, HBK⟩ (fun hHeld => ?_); replace HR5 : Az (Row5 w0 v5 X wr.drew) := ⟨⟨Kd.R_drew HR5.out.1, ga_ HR5.out.2⟩⟩; replace HK5 : Az (KeptT W wr.drew) := ⟨HK5.out⟩; generalize wr.drew = w9 at *; refine pU_ 0 32 ?_ (f_ 23 1) rfl rfl (by kernel_rfl) (fun _ _ _ h => h) (by rfl) ?_ ?_ ?_ ?_; rotate_left
  ·intro w'
   go_simp; try with_reducible rfl
  rotate_left
  ·simp only [Act.put, s1_, s2_, s3_, ia_, ja_]
   rfl
  refine pU_ 1 33 ?_ (f_ 23 2) rfl rfl (by kernel_rfl) (fun _ _ _ h => h) (by rfl) ?_ ?_ ?_ ?_; rotate_left
  ·intro w'
   go_simp; try with_reducible rfl
  rotate_left
  ·simp only [Act.put, s1_, s2_, s3_, ia_, ja_]
   rfl
  refine tA_ 2 34 ?_ (f_ 23 3) rfl rfl (by kernel_rfl) (fun _ _ _ h => h) (by rfl) ?_ hHeld ?_ ?_ ?_; rotate_left
  ·rintro w' ⟨s0, s1, s2, s3, s4⟩
   go_simp; try with_reducible rfl
  rotate_left
  ·simp only [Act.put, s1_, s2_, s3_, ia_, ja_]
   rfl
  refine pU_ 3 35 ?_ (f_ 23 4) rfl rfl (by kernel_rfl) (fun _ _ _ h => h) (by rfl) ?_ ?_ ?_ ?_; rotate_left
  ·intro w'
   go_simp; try with_reducible rfl
  rotate_left
  ·simp only [Act.put, s1_, s2_, s3_, ia_, ja_]
   rfl
  refine pU_ 4 36 ?_ (f_ 23 5) rfl rfl (by kernel_rfl) (fun _ _ _ h => h) (by rfl) ?_ ?_ ?_ ?_; rotate_left
  ·intro w'
   go_simp; try with_reducible rfl
  rotate_left
  ·simp only [Act.put, s1_, s2_, s3_, ia_, ja_]
   rfl
  refine pU_ 5 37 ?_ (f_ 23 6) rfl rfl (by kernel_rfl) (fun _ _ _ h => h) (by rfl) ?_ ?_ ?_ ?_; rotate_left
  ·intro w'
   go_simp; try with_reducible rfl
  rotate_left
  ·simp only [Act.put, s1_, s2_, s3_, ia_, ja_]
   rfl
  refine tA_ 6 38 ?_ (f_ 23 7) rfl rfl (by kernel_rfl) (fun _ _ _ h => h) (by rfl) ?_ hHeld ?_ ?_ ?_; rotate_left
  ·rintro w' ⟨s0, s1, s2, s3, s4⟩
   go_simp; try with_reducible rfl
  rotate_left
  ·simp only [Act.put, s1_, s2_, s3_, ia_, ja_]
   rfl
  refine pU_ 8 40 ?_ #[true, true, true, true, true, true, true, false, true, false, false, false, false, false, false, false, false, false, false, false, false, false, false] rfl rfl (by kernel_rfl) (fun _ _ _ h => h) (by rfl) ?_ ?_ ?_ ?_; rotate_left
  ·intro w'
   go_simp; try with_reducible rfl
  rotate_left
  ·simp only [Act.put, s1_, s2_, s3_, ia_, ja_]
   rfl
  refine tA_ 9 41 ?_ #[true, true, true, true, true, true, true, false, true, true, false, false, false, false, false, false, false, false, false, false, false, false, false] rfl rfl (by kernel_rfl) (fun _ _ _ h => h) (by rfl) ?_ hHeld ?_ ?_ ?_; rotate_left
  ·rintro w' ⟨s0, s1, s2, s3, s4⟩
   go_simp; try with_reducible rfl
  rotate_left
  ·simp only [Act.put, s1_, s2_, s3_, ia_, ja_]
   rfl
  refine pU_ 10 42 ?_ #[true, true, true, true, true, true, true, false, true, true, true, false, false, false, false, false, false, false, false, false, false, false, false] rfl rfl (by kernel_rfl) (fun _ _ _ h => h) (by rfl) ?_ ?_ ?_ ?_; rotate_left
  ·intro w'
   go_simp; try with_reducible rfl
  rotate_left
  ·simp only [Act.put, s1_, s2_, s3_, ia_, ja_]
   rfl
  refine pU_ 11 43 ?_ #[true, true, true, true, true, true, true, false, true, true, true, true, false, false, false, false, false, false, false, false, false, false, false] rfl rfl (by kernel_rfl) (fun _ _ _ h => h) (by rfl) ?_ ?_ ?_ ?_; rotate_left
  ·intro w'
   go_simp; try with_reducible rfl
  rotate_left
  ·simp only [Act.put, s1_, s2_, s3_, ia_, ja_]
   rfl
  refine pU_ 12 44 ?_ #[true, true, true, true, true, true, true, false, true, true, true, true, true, false, false, false, false, false, false, false, false, false, false] rfl rfl (by kernel_rfl) (fun _ _ _ h => h) (by rfl) ?_ ?_ ?_ ?_; rotate_left
  ·intro w'
   go_simp; try with_reducible rfl
  rotate_left
  ·simp only [Act.put, s1_, s2_, s3_, ia_, ja_]
   rfl
  refine tA_ 13 45 ?_ #[true, true, true, true, true, true, true, false, true, true, true, true, true, true, false, false, false, false, false, false, false, false, false] rfl rfl (by kernel_rfl) (fun _ _ _ h => h) (by rfl) ?_ hHeld ?_ ?_ ?_; rotate_left
  ·rintro w' ⟨s0, s1, s2, s3, s4⟩
   go_simp; try with_reducible rfl
  rotate_left
  ·simp only [Act.put, s1_, s2_, s3_, ia_, ja_]
   rfl
  refine pU_ 15 47 ?_ #[true, true, true, true, true, true, true, false, true, true, true, true, true, true, false, true, false, false, false, false, false, false, false] rfl rfl (by kernel_rfl) (fun _ _ _ h => h) (by rfl) ?_ ?_ ?_ ?_; rotate_left
  ·intro w'
   go_simp; try with_reducible rfl
  rotate_left
  ·simp only [Act.put, s1_, s2_, s3_, ia_, ja_]
   rfl
  refine tA_ 16 48 ?_ #[true, true, true, true, true, true, true, false, true, true, true, true, true, true, false, true, true, false, false, false, false, false, false] rfl rfl (by kernel_rfl) (fun _ _ _ h => h) (by rfl) ?_ hHeld ?_ ?_ ?_; rotate_left
  ·rintro w' ⟨s0, s1, s2, s3, s4⟩
   go_simp; try with_reducible rfl
  rotate_left
  ·simp only [Act.put, s1_, s2_, s3_, ia_, ja_]
   rfl
  refine pU_ 17 49 ?_ #[true, true, true, true, true, true, true, false, true, true, true, true, true, true, false, true, true, true, false, false, false, false, false] rfl rfl (by kernel_rfl) (fun _ _ _ h => h) (by rfl) ?_ ?_ ?_ ?_; rotate_left
  ·intro w'
   go_simp; try with_reducible rfl
  rotate_left
  ·simp only [Act.put, s1_, s2_, s3_, ia_, ja_]
   rfl
  refine pU_ 18 50 ?_ #[true, true, true, true, true, true, true, false, true, true, true, true, true, true, false, true, true, true, true, false, false, false, false] rfl rfl (by kernel_rfl) (fun _ _ _ h => h) (by rfl) ?_ ?_ ?_ ?_; rotate_left
  ·intro w'
   go_simp; try with_reducible rfl
  rotate_left
  ·simp only [Act.put, s1_, s2_, s3_, ia_, ja_]
   rfl
  refine pU_ 19 51 ?_ #[true, true, true, true, true, true, true, false, true, true, true, true, true, true, false, true, true, true, true, true, false, false, false] rfl rfl (by kernel_rfl) (fun _ _ _ h => h) (by rfl) ?_ ?_ ?_ ?_; rotate_left
  ·intro w'
   go_simp; try with_reducible rfl
  rotate_left
  ·simp only [Act.put, s1_, s2_, s3_, ia_, ja_]
   rfl
  refine tA_ 20 52 ?_ #[true, true, true, true, true, true, true, false, true, true, true, true, true, true, false, true, true, true, true, true, true, false, false] rfl rfl (by kernel_rfl) (fun _ _ _ h => h) (by rfl) ?_ hHeld ?_ ?_ ?_; rotate_left
  ·rintro w' ⟨s0, s1, s2, s3, s4⟩
   go_simp; try with_reducible rfl
  rotate_left
  ·simp only [Act.put, s1_, s2_, s3_, ia_, ja_]
   rfl
  refine one_ (i := 7) (N := some 39) #[true, true, true, true, true, true, true, true, true, true, true, true, true, true, false, true, true, true, true, true, true, false, false] rfl rfl (by kernel_rfl) (by decide) (fun K hK => ?_); refine wb_ Tryz.func103 (by kernel_rfl) rfl #[v5, .string y0] (by rfl) rfl rfl (by (try simp only [List.map_toArray, List.map_cons, List.map_nil]); rfl) ?_
  refine (io_ w0 v5 X y0 _ HR5.out HL5.out).mono ?_; rintro e w6 ⟨v6, rfl, hr, hk⟩; have HR6 := aM_ hr; have HK6 := aM_ (HK5.out.trans hk); refine ⟨_, rfl, ?_⟩; refine hK.out _ _ ⟨(ba_ (hk _ _ _ (by decide) hHeld.2.2.2.2.out) 3).trans rfl, ha_ hr.2 E0.out, ha_ hr.2 E1.out, ha_ hr.2 E2.out, ⟨(hk _ _ _ (by decide) hHeld.2.2.2.2.out)⟩⟩ (fun hHeld => ?_); clear hK K; refine wa_ (a' := ?_) ?_ ?_; rotate_left
  ·show Act.put _ (some 39) _ = _
   simp only [Act.put, s1_, s2_, s3_, ia_, ja_]; rfl
  refine one_ (i := 14) (N := some 46) (f_ 23 21) rfl rfl (by kernel_rfl) (by decide) (fun K hK => ?_); refine wb_ Tryz.func49 (by kernel_rfl) rfl #[v6, .int .i64 y1] (by rfl) rfl rfl (by (try simp only [List.map_toArray, List.map_cons, List.map_nil]); rfl) ?_
  refine (ke_ w0 v6 (X ++ txt8 y0) y1 _ HR6.out HL6.out).mono ?_; rintro e w7 ⟨v7, rfl, hr, hk⟩; have HR7 := aM_ hr; have HK7 := aM_ (HK6.out.trans hk); refine ⟨_, rfl, ?_⟩; refine hK.out _ _ ⟨(ba_ (hk _ _ _ (by decide) hHeld.2.2.2.2.out) 3).trans rfl, ha_ hr.2 E0.out, ha_ hr.2 E1.out, ha_ hr.2 E2.out, ⟨(hk _ _ _ (by decide) hHeld.2.2.2.2.out)⟩⟩ (fun hHeld => ?_); clear hK K; refine wa_ (a' := ?_) ?_ ?_; rotate_left
  ·show Act.put _ (some 46) _ = _
   simp only [Act.put, s1_, s2_, s3_, ia_, ja_]; rfl
  refine one_ (i := 21) (N := some 53) (f_ 23 22) rfl rfl (by kernel_rfl) (by decide) (fun K hK => ?_); refine wb_ Tryz.func49 (by kernel_rfl) rfl #[v7, .int .i64 y2] (by rfl) rfl rfl (by (try simp only [List.map_toArray, List.map_cons, List.map_nil]); rfl) ?_
  refine (ke_ w0 v7 (X ++ txt8 y0 ++ num8 y1) y2 _ HR7.out HL7.out).mono ?_; rintro e w8 ⟨v8, rfl, hr, hk⟩; have HR8 := aM_ hr; have HK8 := aM_ (HK7.out.trans hk); refine ⟨_, rfl, ?_⟩; refine hK.out _ _ ⟨(ba_ (hk _ _ _ (by decide) hHeld.2.2.2.2.out) 3).trans rfl, ha_ hr.2 E0.out, ha_ hr.2 E1.out, ha_ hr.2 E2.out, ⟨(hk _ _ _ (by decide) hHeld.2.2.2.2.out)⟩⟩ (fun hHeld => ?_); clear hK K; refine wa_ (a' := ?_) ?_ ?_; rotate_left
  ·show Act.put _ (some 53) _ = _
   simp only [Act.put, s1_, s2_, s3_, ia_, ja_]; rfl
  refine pU_ 22 0 ?_ (f_ 23 23) rfl rfl (by kernel_rfl) (fun _ _ _ h => h) (by rfl) ?_ ?_ ?_ ?_; rotate_left
  ·intro w'
   go_simp; try with_reducible rfl
  rotate_left
  ·simp only [Act.put, s1_, s2_, s3_, ia_, ja_]
   rfl
  refine je_ (by kernel_rfl) ?_; have HBK8 := hHeld.2.2.2.2; have HR9 : Az (Row5 w0 v8 (D ++ (f3.take (i + 1)).flatMap ent8) w8) := ⟨by rw [HSN.out]; exact HR8.out⟩; clear hHeld HR5 HR6 HR7 HR8 HL5 HL6 HL7 HK5 HK6 HK7 HBK hc3 he0 he1 he2
  go_wp2
  go_roundg (f3.length - (i + 1))
  case measure => omega
  case rel => exact ⟨i + 1, by omega, by omega, by go_num, HR9, HBK8, HK8⟩
 have he : i = f3.length := by omega
 have hilz : decide ((i : Int) < (f3.length : Int)) = false := by simp; omega
 have hilz' : decide (i < f3.length) = false := by simp; omega
 have HX : Az (Z = (D ++ (f3.take i).flatMap ent8) ++ num8 f4.length ++ (f4.take f4.length).flatMap fc_ ++ num8 f5.length ++ (f5.take f5.length).flatMap ob_) := ⟨by rw [HE8.out, he]⟩
 have HXL : Az ((D ++ (f3.take i).flatMap ent8).length + 8 + (f4.flatMap fc_).length + 8 + (f5.flatMap ob_).length ≤ 1000000000000) := ⟨by rw [he, List.take_length, List.length_append]; have := HD.out; omega⟩
 generalize D ++ (f3.take i).flatMap ent8 = X at *
 have hc3 : wr.cell? ⟨g, 3, none⟩ = some (.slice A3 f3.length c3) := ba_ HBK.out 3
 have hc4 : wr.cell? ⟨g, 4, none⟩ = some (.slice A4 f4.length c4) := ba_ HBK.out 4
 have HN1 := aM_ (ke_ w0 v5 X (f4.length : Int) wr HR5.out (by have := HXL.out; omega))
 clear he HD HE8 HLN
 go_wp2_with fail
 refine HN1.out.mono ?_
 rintro e w9 ⟨v9, rfl, hr, hk⟩
 have HKD := aM_ (HK5.out.trans hk)
 have HBD := aM_ (hk _ _ _ (by decide) HBK.out)
 have HXD : Az ((X ++ num8 (f4.length : Int)).length + (f4.flatMap fc_).length + 8 + (f5.flatMap ob_).length ≤ 1000000000000) := ⟨by rw [List.length_append, rb_]; have := HXL.out; omega⟩
 generalize X ++ num8 (f4.length : Int) = D4 at *
 have HRD : Az (Row5 w0 v9 (D4 ++ (f4.take 0).flatMap fc_) w9) := ⟨by rw [List.take_zero]; show Row5 w0 v9 (D4 ++ []) w9; rw [List.append_nil]; exact hr⟩
 clear hr hk hc3 hc4 HN1 HR5 HK5 HBK HXL
 go_wp2_with fail
 clear hilz hilz' hgg
 go_loopg [6, 0] f4.length (fun gg s6 s0 wq => ∃ i : Nat, i ≤ f4.length ∧ f4.length - i ≤ gg ∧ s6 = .int .i64 i ∧ Az (Row5 w0 s0 (D4 ++ (f4.take i).flatMap fc_) wq) ∧ Az (wq.heap[g]? = some (.cells #[.string f0, .int .i64 f1, .int .i64 f2, .slice A3 f3.length c3, .slice A4 f4.length c4, .slice A5 f5.length c5] 44 (0, 0))) ∧ Az (KeptT W wq))
 case atStart => exact ⟨0, by omega, by omega, rfl, HRD, HBD, HKD⟩
 generalize u0 = v10 at *
 generalize hqq : wr = w10 at *
 clear HRD HBD HKD
 obtain ⟨j, hj, hgg, rfl, HR10, HBK, HK10⟩ := hrel
 by_cases hil : j < f4.length
 ·have hilz : (j : Int) < (f4.length : Int) := by omega
  obtain ⟨ad, A1, c1, A2, c2, hA, e0, e1, e2, e3, e4, l1, g1, l2, g2⟩ := bj_ HC4.out (j : Int) (by omega) hilz; subst hA; rw [Int.toNat_natCast] at e0 e1 e2 e3 e4
  have hy : yb_ f4 (j : Int) = f4[j] := by
   show f4.getD (j : Int).toNat _ = _; rw [Int.toNat_natCast, List.getD_eq_getElem?_getD, List.getElem?_eq_getElem hil]; rfl
  have hsn := md_ fc_ f4 j hil; have hle := ze_ fc_ f4 j hil; rw [← hy] at hsn hle; have he8 : fc_ (yb_ f4 (j : Int)) = num8 (yb_ f4 (j : Int)).f0 ++ xc_ (yb_ f4 (j : Int)).f1 ++ num8 (yb_ f4 (j : Int)).f2.f0 ++ xc_ (yb_ f4 (j : Int)).f2.f1 ++ num8 (yb_ f4 (j : Int)).f3 := by unfold fc_; simp [fb_]
  rw [he8] at hsn hle; generalize (yb_ f4 (j : Int)).f0 = y0 at *; generalize (yb_ f4 (j : Int)).f1 = y1 at *; generalize (yb_ f4 (j : Int)).f2.f0 = y2 at *; generalize (yb_ f4 (j : Int)).f2.f1 = y3 at *; generalize (yb_ f4 (j : Int)).f3 = y4 at *; simp only [List.length_append, rb_] at hle; have hxl : (D4 ++ (f4.take j).flatMap fc_).length + (xc_ y1).length + (xc_ y3).length + 24 ≤ 1000000000000 := by rw [List.length_append]; have := HXD.out; omega
  have HSN : Az (D4 ++ (f4.take (j + 1)).flatMap fc_ = D4 ++ (f4.take j).flatMap fc_ ++ num8 y0 ++ xc_ y1 ++ num8 y2 ++ xc_ y3 ++ num8 y4) := ⟨by rw [hsn]; simp only [List.append_assoc]⟩; generalize D4 ++ (f4.take j).flatMap fc_ = X at *; have HL10 : Az (X.length + 8 ≤ 1000000000000) := ⟨by omega⟩; have HL11 : Az ((X ++ num8 y0).length + (xc_ y1).length ≤ 1000000000000) := ⟨by simp only [List.length_append, rb_]; omega⟩; have HL12 : Az ((X ++ num8 y0 ++ xc_ y1).length + 8 ≤ 1000000000000) := ⟨by simp only [List.length_append, rb_]; omega⟩; have HL13 : Az ((X ++ num8 y0 ++ xc_ y1 ++ num8 y2).length + (xc_ y3).length ≤ 1000000000000) := ⟨by simp only [List.length_append, rb_]; omega⟩; have HL14 : Az ((X ++ num8 y0 ++ xc_ y1 ++ num8 y2 ++ xc_ y3).length + 8 ≤ 1000000000000) := ⟨by simp only [List.length_append, rb_]; omega⟩; have G1 := aM_ g1; have G2 := aM_ g2; have HLE1 := aM_ l1; have HLE2 := aM_ l2; have hc4 : w10.cell? ⟨g, 4, none⟩ = some (.slice (some ad) f4.length c4) := ba_ HBK.out 4; have he0 := ha_ HR10.out.2 e0; have he1 := ha_ HR10.out.2 e1; have he2 := ha_ HR10.out.2 e2; have he3 := ha_ HR10.out.2 e3; have he4 := ha_ HR10.out.2 e4; have HBB : Az ((w10.alloc (.cells #[.int .i64 y0, .slice A1 y1.length c1, .int .i64 y2, .slice A2 y3.length c2, .int .i64 y4] 56)).heap[w10.heap.size]? = some (.cells #[.int .i64 y0, .slice A1 y1.length c1, .int .i64 y2, .slice A2 y3.length c2, .int .i64 y4] 56 (0, 0))) := ⟨ra_ w10 _⟩; replace HBK : Az ((w10.alloc (.cells #[.int .i64 y0, .slice A1 y1.length c1, .int .i64 y2, .slice A2 y3.length c2, .int .i64 y4] 56)).heap[g]? = some (.cells #[.string f0, .int .i64 f1, .int .i64 f2, .slice A3 f3.length c3, .slice (some ad) f4.length c4, .slice A5 f5.length c5] 44 (0, 0))) := ⟨oa_ HBK.out (aa_ (Below.refl _ _) _)⟩; replace HR10 : Az (Row5 w0 v10 X (w10.alloc (.cells #[.int .i64 y0, .slice A1 y1.length c1, .int .i64 y2, .slice A2 y3.length c2, .int .i64 y4] 56))) := ⟨⟨Kd.R_alloc HR10.out.1 _, fa_ HR10.out.2 (aa_ (Below.refl _ _) _)⟩⟩; replace HK10 : Az (KeptT W (w10.alloc (.cells #[.int .i64 y0, .slice A1 y1.length c1, .int .i64 y2, .slice A2 y3.length c2, .int .i64 y4] 56))) := ⟨HK10.out.trans (KeptT.below (aa_ (Below.refl _ _) _))⟩; clear hy hsn hle he8 hxl e0 e1 e2 e3 e4 g1 g2 l1 l2 hqq
  go_wp2_with fail
  generalize w10.alloc (.cells #[.int .i64 y0, .slice A1 y1.length c1, .int .i64 y2, .slice A2 y3.length c2, .int .i64 y4] 56) = w11 at *; generalize w10.heap.size = b at *; have hb0 : w11.cell? ⟨b, 0, none⟩ = some (.int .i64 y0) := ba_ HBB.out 0; have hb1 : w11.cell? ⟨b, 1, none⟩ = some (.slice A1 y1.length c1) := ba_ HBB.out 1; have hb2 : w11.cell? ⟨b, 2, none⟩ = some (.int .i64 y2) := ba_ HBB.out 2; have hb3 : w11.cell? ⟨b, 3, none⟩ = some (.slice A2 y3.length c2) := ba_ HBB.out 3; have hb4 : w11.cell? ⟨b, 4, none⟩ = some (.int .i64 y4) := ba_ HBB.out 4; clear hc4 he0 he1 he2 he3 he4; refine wd_ (n := 19) (S := fun w' => w'.cell? ⟨b, 0, none⟩ = some (.int .i64 y0) ∧ w'.cell? ⟨b, 1, none⟩ = some (.slice A1 y1.length c1) ∧ w'.cell? ⟨b, 2, none⟩ = some (.int .i64 y2) ∧ w'.cell? ⟨b, 3, none⟩ = some (.slice A2 y3.length c2) ∧ w'.cell? ⟨b, 4, none⟩ = some (.int .i64 y4) ∧ Az (w'.heap[g]? = some (.cells #[.string f0, .int .i64 f1, .int .i64 f2, .slice A3 f3.length c3, .slice (some ad) f4.length c4, .slice A5 f5.length c5] 44 (0, 0))) ∧ Az (w'.heap[b]? = some (.cells #[.int .i64 y0, .slice A1 y1.length c1, .int .i64 y2, .slice A2 y3.length c2, .int .i64 y4] 56 (0, 0)))) (ds := []) (f_ 19 0) (by kernel_rfl) rfl rfl ⟨hb0, hb1, hb2, hb3, hb4, HBK, HBB⟩ (fun hHeld => ?_); replace HR10 : Az (Row5 w0 v10 X w11.drew) := ⟨⟨Kd.R_drew HR10.out.1, ga_ HR10.out.2⟩⟩; replace HK10 : Az (KeptT W w11.drew) := ⟨HK10.out⟩; generalize w11.drew = w9 at *; refine pU_ 0 71 ?_ (f_ 19 1) rfl rfl (by kernel_rfl) (fun _ _ _ h => h) (by rfl) ?_ ?_ ?_ ?_; rotate_left
  ·intro w'
   go_simp; try with_reducible rfl
  rotate_left
  ·simp only [Act.put, s1_, s2_, s3_, ia_, ja_]
   rfl
  refine pU_ 1 72 ?_ (f_ 19 2) rfl rfl (by kernel_rfl) (fun _ _ _ h => h) (by rfl) ?_ ?_ ?_ ?_; rotate_left
  ·intro w'
   go_simp; try with_reducible rfl
  rotate_left
  ·simp only [Act.put, s1_, s2_, s3_, ia_, ja_]
   rfl
  refine tA_ 2 73 ?_ (f_ 19 3) rfl rfl (by kernel_rfl) (fun _ _ _ h => h) (by rfl) ?_ hHeld ?_ ?_ ?_; rotate_left
  ·rintro w' ⟨s0, s1, s2, s3, s4, s5, s6⟩
   go_simp; try with_reducible rfl
  rotate_left
  ·simp only [Act.put, s1_, s2_, s3_, ia_, ja_]
   rfl
  refine pU_ 4 75 ?_ #[true, true, true, false, true, false, false, false, false, false, false, false, false, false, false, false, false, false, false] rfl rfl (by kernel_rfl) (fun _ _ _ h => h) (by rfl) ?_ ?_ ?_ ?_; rotate_left
  ·intro w'
   go_simp; try with_reducible rfl
  rotate_left
  ·simp only [Act.put, s1_, s2_, s3_, ia_, ja_]
   rfl
  refine tA_ 5 76 ?_ #[true, true, true, false, true, true, false, false, false, false, false, false, false, false, false, false, false, false, false] rfl rfl (by kernel_rfl) (fun _ _ _ h => h) (by rfl) ?_ hHeld ?_ ?_ ?_; rotate_left
  ·rintro w' ⟨s0, s1, s2, s3, s4, s5, s6⟩
   go_simp; try with_reducible rfl
  rotate_left
  ·simp only [Act.put, s1_, s2_, s3_, ia_, ja_]
   rfl
  refine pU_ 7 78 ?_ #[true, true, true, false, true, true, false, true, false, false, false, false, false, false, false, false, false, false, false] rfl rfl (by kernel_rfl) (fun _ _ _ h => h) (by rfl) ?_ ?_ ?_ ?_; rotate_left
  ·intro w'
   go_simp; try with_reducible rfl
  rotate_left
  ·simp only [Act.put, s1_, s2_, s3_, ia_, ja_]
   rfl
  refine pU_ 8 79 ?_ #[true, true, true, false, true, true, false, true, true, false, false, false, false, false, false, false, false, false, false] rfl rfl (by kernel_rfl) (fun _ _ _ h => h) (by rfl) ?_ ?_ ?_ ?_; rotate_left
  ·intro w'
   go_simp; try with_reducible rfl
  rotate_left
  ·simp only [Act.put, s1_, s2_, s3_, ia_, ja_]
   rfl
  refine tA_ 9 80 ?_ #[true, true, true, false, true, true, false, true, true, true, false, false, false, false, false, false, false, false, false] rfl rfl (by kernel_rfl) (fun _ _ _ h => h) (by rfl) ?_ hHeld ?_ ?_ ?_; rotate_left
  ·rintro w' ⟨s0, s1, s2, s3, s4, s5, s6⟩
   go_simp; try with_reducible rfl
  rotate_left
  ·simp only [Act.put, s1_, s2_, s3_, ia_, ja_]
   rfl
  refine pU_ 11 82 ?_ #[true, true, true, false, true, true, false, true, true, true, false, true, false, false, false, false, false, false, false] rfl rfl (by kernel_rfl) (fun _ _ _ h => h) (by rfl) ?_ ?_ ?_ ?_; rotate_left
  ·intro w'
   go_simp; try with_reducible rfl
  rotate_left
  ·simp only [Act.put, s1_, s2_, s3_, ia_, ja_]
   rfl
  refine pU_ 12 83 ?_ #[true, true, true, false, true, true, false, true, true, true, false, true, true, false, false, false, false, false, false] rfl rfl (by kernel_rfl) (fun _ _ _ h => h) (by rfl) ?_ ?_ ?_ ?_; rotate_left
  ·intro w'
   go_simp; try with_reducible rfl
  rotate_left
  ·simp only [Act.put, s1_, s2_, s3_, ia_, ja_]
   rfl
  refine tA_ 13 84 ?_ #[true, true, true, false, true, true, false, true, true, true, false, true, true, true, false, false, false, false, false] rfl rfl (by kernel_rfl) (fun _ _ _ h => h) (by rfl) ?_ hHeld ?_ ?_ ?_; rotate_left
  ·rintro w' ⟨s0, s1, s2, s3, s4, s5, s6⟩
   go_simp; try with_reducible rfl
  rotate_left
  ·simp only [Act.put, s1_, s2_, s3_, ia_, ja_]
   rfl
  refine pU_ 15 86 ?_ #[true, true, true, false, true, true, false, true, true, true, false, true, true, true, false, true, false, false, false] rfl rfl (by kernel_rfl) (fun _ _ _ h => h) (by rfl) ?_ ?_ ?_ ?_; rotate_left
  ·intro w'
   go_simp; try with_reducible rfl
  rotate_left
  ·simp only [Act.put, s1_, s2_, s3_, ia_, ja_]
   rfl
  refine tA_ 16 87 ?_ #[true, true, true, false, true, true, false, true, true, true, false, true, true, true, false, true, true, false, false] rfl rfl (by kernel_rfl) (fun _ _ _ h => h) (by rfl) ?_ hHeld ?_ ?_ ?_; rotate_left
  ·rintro w' ⟨s0, s1, s2, s3, s4, s5, s6⟩
   go_simp; try with_reducible rfl
  rotate_left
  ·simp only [Act.put, s1_, s2_, s3_, ia_, ja_]
   rfl
  refine one_ (i := 3) (N := some 74) #[true, true, true, true, true, true, false, true, true, true, false, true, true, true, false, true, true, false, false] rfl rfl (by kernel_rfl) (by decide) (fun K hK => ?_); refine wb_ Tryz.func49 (by kernel_rfl) rfl #[v10, .int .i64 y0] (by rfl) rfl rfl (by (try simp only [List.map_toArray, List.map_cons, List.map_nil]); rfl) ?_
  refine (ke_ w0 v10 X y0 _ HR10.out HL10.out).mono ?_; rintro e w11 ⟨v11, rfl, hr, hk⟩; have HR11 := aM_ hr; have HK11 := aM_ (HK10.out.trans hk); refine ⟨_, rfl, ?_⟩; refine hK.out _ _ ⟨(ba_ (hk _ _ _ (by decide) hHeld.2.2.2.2.2.2.out) 0).trans rfl, (ba_ (hk _ _ _ (by decide) hHeld.2.2.2.2.2.2.out) 1).trans rfl, (ba_ (hk _ _ _ (by decide) hHeld.2.2.2.2.2.2.out) 2).trans rfl, (ba_ (hk _ _ _ (by decide) hHeld.2.2.2.2.2.2.out) 3).trans rfl, (ba_ (hk _ _ _ (by decide) hHeld.2.2.2.2.2.2.out) 4).trans rfl, ⟨(hk _ _ _ (by decide) hHeld.2.2.2.2.2.1.out)⟩, ⟨(hk _ _ _ (by decide) hHeld.2.2.2.2.2.2.out)⟩⟩ (fun hHeld => ?_); clear hK K; refine wa_ (a' := ?_) ?_ ?_; rotate_left
  ·show Act.put _ (some 74) _ = _
   simp only [Act.put, s1_, s2_, s3_, ia_, ja_]; rfl
  refine one_ (i := 6) (N := some 77) #[true, true, true, true, true, true, true, true, true, true, false, true, true, true, false, true, true, false, false] rfl rfl (by kernel_rfl) (by decide) (fun K hK => ?_); refine wb_ Tryz.func104 (by kernel_rfl) rfl #[v11, .slice A1 y1.length c1] (by rfl) rfl rfl (by (try simp only [List.map_toArray, List.map_cons, List.map_nil]); rfl) ?_
  refine (rt_ w0 v11 (X ++ num8 y0) A1 c1 y1 _ HR11.out G1.out HLE1.out HL11.out).mono ?_; rintro e w12 ⟨v12, rfl, hr, hk⟩; have HR12 := aM_ hr; have HK12 := aM_ (HK11.out.trans hk); refine ⟨_, rfl, ?_⟩; refine hK.out _ _ ⟨(ba_ (hk _ _ _ (by decide) hHeld.2.2.2.2.2.2.out) 0).trans rfl, (ba_ (hk _ _ _ (by decide) hHeld.2.2.2.2.2.2.out) 1).trans rfl, (ba_ (hk _ _ _ (by decide) hHeld.2.2.2.2.2.2.out) 2).trans rfl, (ba_ (hk _ _ _ (by decide) hHeld.2.2.2.2.2.2.out) 3).trans rfl, (ba_ (hk _ _ _ (by decide) hHeld.2.2.2.2.2.2.out) 4).trans rfl, ⟨(hk _ _ _ (by decide) hHeld.2.2.2.2.2.1.out)⟩, ⟨(hk _ _ _ (by decide) hHeld.2.2.2.2.2.2.out)⟩⟩ (fun hHeld => ?_); clear hK K; refine wa_ (a' := ?_) ?_ ?_; rotate_left
  ·show Act.put _ (some 77) _ = _
   simp only [Act.put, s1_, s2_, s3_, ia_, ja_]; rfl
  refine one_ (i := 10) (N := some 81) #[true, true, true, true, true, true, true, true, true, true, true, true, true, true, false, true, true, false, false] rfl rfl (by kernel_rfl) (by decide) (fun K hK => ?_); refine wb_ Tryz.func49 (by kernel_rfl) rfl #[v12, .int .i64 y2] (by rfl) rfl rfl (by (try simp only [List.map_toArray, List.map_cons, List.map_nil]); rfl) ?_
  refine (ke_ w0 v12 (X ++ num8 y0 ++ xc_ y1) y2 _ HR12.out HL12.out).mono ?_; rintro e w13 ⟨v13, rfl, hr, hk⟩; have HR13 := aM_ hr; have HK13 := aM_ (HK12.out.trans hk); refine ⟨_, rfl, ?_⟩; refine hK.out _ _ ⟨(ba_ (hk _ _ _ (by decide) hHeld.2.2.2.2.2.2.out) 0).trans rfl, (ba_ (hk _ _ _ (by decide) hHeld.2.2.2.2.2.2.out) 1).trans rfl, (ba_ (hk _ _ _ (by decide) hHeld.2.2.2.2.2.2.out) 2).trans rfl, (ba_ (hk _ _ _ (by decide) hHeld.2.2.2.2.2.2.out) 3).trans rfl, (ba_ (hk _ _ _ (by decide) hHeld.2.2.2.2.2.2.out) 4).trans rfl, ⟨(hk _ _ _ (by decide) hHeld.2.2.2.2.2.1.out)⟩, ⟨(hk _ _ _ (by decide) hHeld.2.2.2.2.2.2.out)⟩⟩ (fun hHeld => ?_); clear hK K; refine wa_ (a' := ?_) ?_ ?_; rotate_left
  ·show Act.put _ (some 81) _ = _
   simp only [Act.put, s1_, s2_, s3_, ia_, ja_]; rfl
  refine one_ (i := 14) (N := some 85) (f_ 19 17) rfl rfl (by kernel_rfl) (by decide) (fun K hK => ?_); refine wb_ Tryz.func104 (by kernel_rfl) rfl #[v13, .slice A2 y3.length c2] (by rfl) rfl rfl (by (try simp only [List.map_toArray, List.map_cons, List.map_nil]); rfl) ?_
  refine (rt_ w0 v13 (X ++ num8 y0 ++ xc_ y1 ++ num8 y2) A2 c2 y3 _ HR13.out G2.out HLE2.out HL13.out).mono ?_; rintro e w14 ⟨v14, rfl, hr, hk⟩; have HR14 := aM_ hr; have HK14 := aM_ (HK13.out.trans hk); refine ⟨_, rfl, ?_⟩; refine hK.out _ _ ⟨(ba_ (hk _ _ _ (by decide) hHeld.2.2.2.2.2.2.out) 0).trans rfl, (ba_ (hk _ _ _ (by decide) hHeld.2.2.2.2.2.2.out) 1).trans rfl, (ba_ (hk _ _ _ (by decide) hHeld.2.2.2.2.2.2.out) 2).trans rfl, (ba_ (hk _ _ _ (by decide) hHeld.2.2.2.2.2.2.out) 3).trans rfl, (ba_ (hk _ _ _ (by decide) hHeld.2.2.2.2.2.2.out) 4).trans rfl, ⟨(hk _ _ _ (by decide) hHeld.2.2.2.2.2.1.out)⟩, ⟨(hk _ _ _ (by decide) hHeld.2.2.2.2.2.2.out)⟩⟩ (fun hHeld => ?_); clear hK K; refine wa_ (a' := ?_) ?_ ?_; rotate_left
  ·show Act.put _ (some 85) _ = _
   simp only [Act.put, s1_, s2_, s3_, ia_, ja_]; rfl
  refine one_ (i := 17) (N := some 88) (f_ 19 18) rfl rfl (by kernel_rfl) (by decide) (fun K hK => ?_); refine wb_ Tryz.func49 (by kernel_rfl) rfl #[v14, .int .i64 y4] (by rfl) rfl rfl (by (try simp only [List.map_toArray, List.map_cons, List.map_nil]); rfl) ?_
  refine (ke_ w0 v14 (X ++ num8 y0 ++ xc_ y1 ++ num8 y2 ++ xc_ y3) y4 _ HR14.out HL14.out).mono ?_; rintro e w15 ⟨v15, rfl, hr, hk⟩; have HR15 := aM_ hr; have HK15 := aM_ (HK14.out.trans hk); refine ⟨_, rfl, ?_⟩; refine hK.out _ _ ⟨(ba_ (hk _ _ _ (by decide) hHeld.2.2.2.2.2.2.out) 0).trans rfl, (ba_ (hk _ _ _ (by decide) hHeld.2.2.2.2.2.2.out) 1).trans rfl, (ba_ (hk _ _ _ (by decide) hHeld.2.2.2.2.2.2.out) 2).trans rfl, (ba_ (hk _ _ _ (by decide) hHeld.2.2.2.2.2.2.out) 3).trans rfl, (ba_ (hk _ _ _ (by decide) hHeld.2.2.2.2.2.2.out) 4).trans rfl, ⟨(hk _ _ _ (by decide) hHeld.2.2.2.2.2.1.out)⟩, ⟨(hk _ _ _ (by decide) hHeld.2.2.2.2.2.2.out)⟩⟩ (fun hHeld => ?_); clear hK K; refine wa_ (a' := ?_) ?_ ?_; rotate_left
  ·show Act.put _ (some 88) _ = _
   simp only [Act.put, s1_, s2_, s3_, ia_, ja_]; rfl
  refine pU_ 18 0 ?_ (f_ 19 19) rfl rfl (by kernel_rfl) (fun _ _ _ h => h) (by rfl) ?_ ?_ ?_ ?_; rotate_left
  ·intro w'
   go_simp; try with_reducible rfl
  rotate_left
  ·simp only [Act.put, s1_, s2_, s3_, ia_, ja_]
   rfl
  refine je_ (by kernel_rfl) ?_; have HBK16 := hHeld.2.2.2.2.2.1; have HR16 : Az (Row5 w0 v15 (D4 ++ (f4.take (j + 1)).flatMap fc_) w15) := ⟨by rw [HSN.out]; exact HR15.out⟩; clear hHeld HR10 HR11 HR12 HR13 HR14 HR15 HL10 HL11 HL12 HL13 HL14 HK10 HK11 HK12 HK13 HK14 HBK HBB hb0 hb1 hb2 hb3 hb4 G1 G2 HLE1 HLE2
  go_wp2
  go_roundg (f4.length - (j + 1))
  case measure => omega
  case rel => exact ⟨j + 1, by omega, by omega, by go_num, HR16, HBK16, HK15⟩
 have he : j = f4.length := by omega
 have hilz : decide ((j : Int) < (f4.length : Int)) = false := by simp; omega
 have hilz' : decide (j < f4.length) = false := by simp; omega
 have HX5 : Az (Z = (D4 ++ (f4.take j).flatMap fc_) ++ num8 f5.length ++ (f5.take f5.length).flatMap ob_) := ⟨by rw [HX.out, he]⟩
 have HXL5 : Az ((D4 ++ (f4.take j).flatMap fc_).length + 8 + (f5.flatMap ob_).length ≤ 1000000000000) := ⟨by rw [he, List.take_length, List.length_append]; have := HXD.out; omega⟩
 generalize D4 ++ (f4.take j).flatMap fc_ = X at *
 have hc4 : w10.cell? ⟨g, 4, none⟩ = some (.slice A4 f4.length c4) := ba_ HBK.out 4
 have hc5 : w10.cell? ⟨g, 5, none⟩ = some (.slice A5 f5.length c5) := ba_ HBK.out 5
 have HN1 := aM_ (ke_ w0 v10 X (f5.length : Int) w10 HR10.out (by have := HXL5.out; omega))
 clear he HXD HX hqq
 go_wp2_with fail
 refine HN1.out.mono ?_
 rintro e w19 ⟨v19, rfl, hr, hk⟩
 have HKD := aM_ (HK10.out.trans hk)
 have HBD := aM_ (hk _ _ _ (by decide) HBK.out)
 have HXD : Az ((X ++ num8 (f5.length : Int)).length + (f5.flatMap ob_).length ≤ 1000000000000) := ⟨by rw [List.length_append, rb_]; have := HXL5.out; omega⟩
 generalize X ++ num8 (f5.length : Int) = D5 at *
 have HRD : Az (Row5 w0 v19 (D5 ++ (f5.take 0).flatMap ob_) w19) := ⟨by rw [List.take_zero]; show Row5 w0 v19 (D5 ++ []) w19; rw [List.append_nil]; exact hr⟩
 clear hr hk hc4 hc5 HN1 HR10 HK10 HBK HXL5
 go_wp2_with fail
 clear hilz hilz' hgg
 go_loopg [8, 0] f5.length (fun gg s8 s0 wq => ∃ i : Nat, i ≤ f5.length ∧ f5.length - i ≤ gg ∧ s8 = .int .i64 i ∧ Az (Row5 w0 s0 (D5 ++ (f5.take i).flatMap ob_) wq) ∧ Az (wq.heap[g]? = some (.cells #[.string f0, .int .i64 f1, .int .i64 f2, .slice A3 f3.length c3, .slice A4 f4.length c4, .slice A5 f5.length c5] 44 (0, 0))) ∧ Az (KeptT W wq))
 case atStart => exact ⟨0, by omega, by omega, rfl, HRD, HBD, HKD⟩
 generalize u0 = v20 at *
 generalize hqq : wr = w20 at *
 clear HRD HBD HKD
 obtain ⟨m, hm, hgg, rfl, HR20, HBK, HK20⟩ := hrel
 by_cases hil : m < f5.length
 ·have hilz : (m : Int) < (f5.length : Int) := by omega
  obtain ⟨ad, A1, c1, hA, e0, e1, l1, g1⟩ := ip_ HC5.out (m : Int) (by omega) hilz; subst hA; rw [Int.toNat_natCast] at e0 e1
  have hy : he_ f5 (m : Int) = f5[m] := by
   show f5.getD (m : Int).toNat _ = _; rw [Int.toNat_natCast, List.getD_eq_getElem?_getD, List.getElem?_eq_getElem hil]; rfl
  have hsn := md_ ob_ f5 m hil; have hle := ze_ ob_ f5 m hil; rw [← hy] at hsn hle; have he8 : ob_ (he_ f5 (m : Int)) = num8 (he_ f5 (m : Int)).f0 ++ num8 (he_ f5 (m : Int)).f1.length ++ (he_ f5 (m : Int)).f1.flatMap nc_ := by unfold ob_ pb_; simp [fb_]
  rw [he8] at hsn hle; generalize (he_ f5 (m : Int)).f0 = z0 at *; generalize (he_ f5 (m : Int)).f1 = z1 at *; have hbn1 : z1.length ≤ 9223372036854775807 := g1.2.1; simp only [List.length_append, rb_] at hle; have hxl : (D5 ++ (f5.take m).flatMap ob_).length + 16 + (z1.flatMap nc_).length ≤ 1000000000000 := by rw [List.length_append]; have := HXD.out; omega
  have HSN : Az (D5 ++ (f5.take (m + 1)).flatMap ob_ = D5 ++ (f5.take m).flatMap ob_ ++ num8 z0 ++ num8 z1.length ++ (z1.take z1.length).flatMap nc_) := ⟨by rw [hsn, List.take_length]; simp only [List.append_assoc]⟩; generalize D5 ++ (f5.take m).flatMap ob_ = X at *; have HL20 : Az (X.length + 8 ≤ 1000000000000) := ⟨by omega⟩; have HL21 : Az ((X ++ num8 z0).length + 8 ≤ 1000000000000) := ⟨by simp only [List.length_append, rb_]; omega⟩; have HYL : Az ((X ++ num8 z0 ++ num8 z1.length).length + (z1.flatMap nc_).length ≤ 1000000000000) := ⟨by simp only [List.length_append, rb_]; omega⟩; have E0 := aM_ e0; have E1 := aM_ e1; have G1 := aM_ g1; have hc5 : w20.cell? ⟨g, 5, none⟩ = some (.slice (some ad) f5.length c5) := ba_ HBK.out 5; have he0 := ha_ HR20.out.2 e0; have he1 := ha_ HR20.out.2 e1; clear hy hsn hle he8 hxl e0 e1 g1 l1 hqq
  go_wp2_with fail
  refine wd_ (n := 17) (S := fun w' => w'.cell? ⟨g, 5, none⟩ = some (.slice (some ad) f5.length c5) ∧ w'.cell? (ad.add (m * 2)) = some (.int .i64 z0) ∧ w'.cell? ⟨(ad.add (m * 2)).block, (ad.add (m * 2)).off + 1, none⟩ = some (.slice A1 z1.length c1) ∧ Az (w'.heap[g]? = some (.cells #[.string f0, .int .i64 f1, .int .i64 f2, .slice A3 f3.length c3, .slice A4 f4.length c4, .slice (some ad) f5.length c5] 44 (0, 0)))) (ds := []) (f_ 17 0) (by kernel_rfl) rfl rfl ⟨hc5, he0, he1, HBK⟩ (fun hHeld => ?_); replace HR20 : Az (Row5 w0 v20 X w20.drew) := ⟨⟨Kd.R_drew HR20.out.1, ga_ HR20.out.2⟩⟩; replace HK20 : Az (KeptT W w20.drew) := ⟨HK20.out⟩; generalize w20.drew = w9 at *; refine pU_ 0 101 ?_ (f_ 17 1) rfl rfl (by kernel_rfl) (fun _ _ _ h => h) (by rfl) ?_ ?_ ?_ ?_; rotate_left
  ·intro w'
   go_simp; try with_reducible rfl
  rotate_left
  ·simp only [Act.put, s1_, s2_, s3_, ia_, ja_]
   rfl
  refine pU_ 1 102 ?_ (f_ 17 2) rfl rfl (by kernel_rfl) (fun _ _ _ h => h) (by rfl) ?_ ?_ ?_ ?_; rotate_left
  ·intro w'
   go_simp; try with_reducible rfl
  rotate_left
  ·simp only [Act.put, s1_, s2_, s3_, ia_, ja_]
   rfl
  refine tA_ 2 103 ?_ (f_ 17 3) rfl rfl (by kernel_rfl) (fun _ _ _ h => h) (by rfl) ?_ hHeld ?_ ?_ ?_; rotate_left
  ·rintro w' ⟨s0, s1, s2, s3⟩
   go_simp; try with_reducible rfl
  rotate_left
  ·simp only [Act.put, s1_, s2_, s3_, ia_, ja_]
   rfl
  refine pU_ 3 104 ?_ (f_ 17 4) rfl rfl (by kernel_rfl) (fun _ _ _ h => h) (by rfl) ?_ ?_ ?_ ?_; rotate_left
  ·intro w'
   go_simp; try with_reducible rfl
  rotate_left
  ·simp only [Act.put, s1_, s2_, s3_, ia_, ja_]
   rfl
  refine pU_ 4 105 ?_ (f_ 17 5) rfl rfl (by kernel_rfl) (fun _ _ _ h => h) (by rfl) ?_ ?_ ?_ ?_; rotate_left
  ·intro w'
   go_simp; try with_reducible rfl
  rotate_left
  ·simp only [Act.put, s1_, s2_, s3_, ia_, ja_]
   rfl
  refine pU_ 5 106 ?_ (f_ 17 6) rfl rfl (by kernel_rfl) (fun _ _ _ h => h) (by rfl) ?_ ?_ ?_ ?_; rotate_left
  ·intro w'
   go_simp; try with_reducible rfl
  rotate_left
  ·simp only [Act.put, s1_, s2_, s3_, ia_, ja_]
   rfl
  refine tA_ 6 107 ?_ (f_ 17 7) rfl rfl (by kernel_rfl) (fun _ _ _ h => h) (by rfl) ?_ hHeld ?_ ?_ ?_; rotate_left
  ·rintro w' ⟨s0, s1, s2, s3⟩
   go_simp; try with_reducible rfl
  rotate_left
  ·simp only [Act.put, s1_, s2_, s3_, ia_, ja_]
   rfl
  refine pU_ 8 109 ?_ #[true, true, true, true, true, true, true, false, true, false, false, false, false, false, false, false, false] rfl rfl (by kernel_rfl) (fun _ _ _ h => h) (by rfl) ?_ ?_ ?_ ?_; rotate_left
  ·intro w'
   go_simp; try with_reducible rfl
  rotate_left
  ·simp only [Act.put, s1_, s2_, s3_, ia_, ja_]
   rfl
  refine tA_ 9 110 ?_ #[true, true, true, true, true, true, true, false, true, true, false, false, false, false, false, false, false] rfl rfl (by kernel_rfl) (fun _ _ _ h => h) (by rfl) ?_ hHeld ?_ ?_ ?_; rotate_left
  ·rintro w' ⟨s0, s1, s2, s3⟩
   go_simp; try with_reducible rfl
  rotate_left
  ·simp only [Act.put, s1_, s2_, s3_, ia_, ja_]
   rfl
  refine pU_ 10 111 ?_ #[true, true, true, true, true, true, true, false, true, true, true, false, false, false, false, false, false] rfl rfl (by kernel_rfl) (fun _ _ _ h => h) (by rfl) ?_ ?_ ?_ ?_; rotate_left
  ·intro w'
   go_simp; try with_reducible rfl
  rotate_left
  ·simp only [Act.put, s1_, s2_, s3_, ia_, ja_]
   rfl
  refine pU_ 11 112 ?_ #[true, true, true, true, true, true, true, false, true, true, true, true, false, false, false, false, false] rfl rfl (by kernel_rfl) (fun _ _ _ h => h) (by rfl) ?_ ?_ ?_ ?_; rotate_left
  ·intro w'
   go_simp; try with_reducible rfl
  rotate_left
  ·simp only [Act.put, s1_, s2_, s3_, ia_, ja_]
   rfl
  refine pU_ 12 113 ?_ #[true, true, true, true, true, true, true, false, true, true, true, true, true, false, false, false, false] rfl rfl (by kernel_rfl) (fun _ _ _ h => h) (by rfl) ?_ ?_ ?_ ?_; rotate_left
  ·intro w'
   go_simp; try with_reducible rfl
  rotate_left
  ·simp only [Act.put, s1_, s2_, s3_, ia_, ja_]
   rfl
  refine tA_ 13 114 ?_ #[true, true, true, true, true, true, true, false, true, true, true, true, true, true, false, false, false] rfl rfl (by kernel_rfl) (fun _ _ _ h => h) (by rfl) ?_ hHeld ?_ ?_ ?_; rotate_left
  ·rintro w' ⟨s0, s1, s2, s3⟩
   go_simp; try with_reducible rfl
  rotate_left
  ·simp only [Act.put, s1_, s2_, s3_, ia_, ja_]
   rfl
  refine pU_ 14 115 ?_ #[true, true, true, true, true, true, true, false, true, true, true, true, true, true, true, false, false] rfl rfl (by kernel_rfl) (fun _ _ _ h => h) (by rfl) ?_ ?_ ?_ ?_; rotate_left
  ·intro w'
   go_simp; try with_reducible rfl
  rotate_left
  ·simp only [Act.put, s1_, s2_, s3_, ia_, ja_]
   rfl
  refine one_ (i := 7) (N := some 108) (f_ 17 15) rfl rfl (by kernel_rfl) (by decide) (fun K hK => ?_); refine wb_ Tryz.func49 (by kernel_rfl) rfl #[v20, .int .i64 z0] (by rfl) rfl rfl (by (try simp only [List.map_toArray, List.map_cons, List.map_nil]); rfl) ?_
  refine (ke_ w0 v20 X z0 _ HR20.out HL20.out).mono ?_; rintro e w21 ⟨v21, rfl, hr, hk⟩; have HR21 := aM_ hr; have HK21 := aM_ (HK20.out.trans hk); refine ⟨_, rfl, ?_⟩; refine hK.out _ _ ⟨(ba_ (hk _ _ _ (by decide) hHeld.2.2.2.out) 5).trans rfl, ha_ hr.2 E0.out, ha_ hr.2 E1.out, ⟨(hk _ _ _ (by decide) hHeld.2.2.2.out)⟩⟩ (fun hHeld => ?_); clear hK K; refine wa_ (a' := ?_) ?_ ?_; rotate_left
  ·show Act.put _ (some 108) _ = _
   simp only [Act.put, s1_, s2_, s3_, ia_, ja_]; rfl
  refine one_ (i := 15) (N := some 116) (f_ 17 16) rfl rfl (by kernel_rfl) (by decide) (fun K hK => ?_); refine wb_ Tryz.func49 (by kernel_rfl) rfl #[v21, .int .i64 (z1.length : Int)] (by rfl) rfl rfl (by (try simp only [List.map_toArray, List.map_cons, List.map_nil]); rfl) ?_
  refine (ke_ w0 v21 (X ++ num8 z0) (z1.length : Int) _ HR21.out HL21.out).mono ?_; rintro e w22 ⟨v22, rfl, hr, hk⟩; have HR22 := aM_ hr; have HK22 := aM_ (HK21.out.trans hk); refine ⟨_, rfl, ?_⟩; refine hK.out _ _ ⟨(ba_ (hk _ _ _ (by decide) hHeld.2.2.2.out) 5).trans rfl, ha_ hr.2 E0.out, ha_ hr.2 E1.out, ⟨(hk _ _ _ (by decide) hHeld.2.2.2.out)⟩⟩ (fun hHeld => ?_); clear hK K; refine wa_ (a' := ?_) ?_ ?_; rotate_left
  ·show Act.put _ (some 116) _ = _
   simp only [Act.put, s1_, s2_, s3_, ia_, ja_]; rfl
  refine pU_ 16 0 ?_ (f_ 17 17) rfl rfl (by kernel_rfl) (fun _ _ _ h => h) (by rfl) ?_ ?_ ?_ ?_; rotate_left
  ·intro w'
   go_simp; try with_reducible rfl
  rotate_left
  ·simp only [Act.put, s1_, s2_, s3_, ia_, ja_]
   rfl
  refine je_ (by kernel_rfl) ?_; have HBK22 := hHeld.2.2.2; have HK22' := HK22; generalize X ++ num8 z0 ++ num8 (z1.length : Int) = Y at *; have HRY : Az (Row5 w0 v22 (Y ++ (z1.take 0).flatMap nc_) w22) := ⟨by rw [List.take_zero]; show Row5 w0 v22 (Y ++ []) w22; rw [List.append_nil]; exact HR22.out⟩; clear hHeld HR20 HR21 HR22 HL20 HL21 HK20 HK21 HK22 HBK hc5 he0 he1
  go_wp2_with fail
  go_loopg [9, 0] z1.length (fun gg s9 s0 wq => ∃ i : Nat, i ≤ z1.length ∧ z1.length - i ≤ gg ∧ s9 = .int .i64 i ∧ Az (Row5 w0 s0 (Y ++ (z1.take i).flatMap nc_) wq) ∧ Az (wq.heap[g]? = some (.cells #[.string f0, .int .i64 f1, .int .i64 f2, .slice A3 f3.length c3, .slice A4 f4.length c4, .slice (some ad) f5.length c5] 44 (0, 0))) ∧ Az (KeptT W wq))
  case atStart => exact ⟨0, by omega, by omega, rfl, HRY, HBK22, HK22'⟩
  generalize u0 = v30 at *; generalize hqq : wr = w30 at *; clear HRY HBK22 HK22'; obtain ⟨q, hq, hgq, rfl, HR30, HBK, HK30⟩ := hrel; have hc5 : w30.cell? ⟨g, 5, none⟩ = some (.slice (some ad) f5.length c5) := ba_ HBK.out 5; have he1 := ha_ HR30.out.2 E1.out
  by_cases hiq : q < z1.length
  ·have hiqz : (q : Int) < (z1.length : Int) := by omega
   obtain ⟨ad2, hA, e0, e1, e2, e3, e4⟩ := zs_ G1.out (q : Int) (by omega) hiqz; subst hA; rw [Int.toNat_natCast] at e0 e1 e2 e3 e4
   have hy : qd_ z1 (q : Int) = z1[q] := by
    show z1.getD (q : Int).toNat _ = _; rw [Int.toNat_natCast, List.getD_eq_getElem?_getD, List.getElem?_eq_getElem hiq]; rfl
   have hsn := md_ nc_ z1 q hiq; have hle := ze_ nc_ z1 q hiq; rw [← hy] at hsn hle; have hp8 : nc_ (qd_ z1 (q : Int)) = num8 (qd_ z1 (q : Int)).f0 ++ txt8 (qd_ z1 (q : Int)).f1 ++ num8 (qd_ z1 (q : Int)).f2 ++ num8 (qd_ z1 (q : Int)).f3 ++ num8 (qd_ z1 (q : Int)).f4 := by unfold nc_; simp [fb_]
   rw [hp8] at hsn hle; generalize (qd_ z1 (q : Int)).f0 = y0 at *; generalize (qd_ z1 (q : Int)).f1 = y1 at *; generalize (qd_ z1 (q : Int)).f2 = y2 at *; generalize (qd_ z1 (q : Int)).f3 = y3 at *; generalize (qd_ z1 (q : Int)).f4 = y4 at *; simp only [List.length_append, rb_] at hle; have hxl : (Y ++ (z1.take q).flatMap nc_).length + (txt8 y1).length + 32 ≤ 1000000000000 := by rw [List.length_append]; have := HYL.out; omega
   have HSP : Az (Y ++ (z1.take (q + 1)).flatMap nc_ = Y ++ (z1.take q).flatMap nc_ ++ num8 y0 ++ txt8 y1 ++ num8 y2 ++ num8 y3 ++ num8 y4) := ⟨by rw [hsn]; simp only [List.append_assoc]⟩; generalize Y ++ (z1.take q).flatMap nc_ = X at *; have HL30 : Az (X.length + 8 ≤ 1000000000000) := ⟨by omega⟩; have HL31 : Az ((X ++ num8 y0).length + (txt8 y1).length ≤ 1000000000000) := ⟨by simp only [List.length_append, rb_]; omega⟩; have HL32 : Az ((X ++ num8 y0 ++ txt8 y1).length + 8 ≤ 1000000000000) := ⟨by simp only [List.length_append, rb_]; omega⟩; have HL33 : Az ((X ++ num8 y0 ++ txt8 y1 ++ num8 y2).length + 8 ≤ 1000000000000) := ⟨by simp only [List.length_append, rb_]; omega⟩; have HL34 : Az ((X ++ num8 y0 ++ txt8 y1 ++ num8 y2 ++ num8 y3).length + 8 ≤ 1000000000000) := ⟨by simp only [List.length_append, rb_]; omega⟩; have hp0 := ha_ HR30.out.2 e0; have hp1 := ha_ HR30.out.2 e1; have hp2 := ha_ HR30.out.2 e2; have hp3 := ha_ HR30.out.2 e3; have hp4 := ha_ HR30.out.2 e4; have HBB : Az ((w30.alloc (.cells #[.int .i64 y0, .string y1, .int .i64 y2, .int .i64 y3, .int .i64 y4] 48)).heap[w30.heap.size]? = some (.cells #[.int .i64 y0, .string y1, .int .i64 y2, .int .i64 y3, .int .i64 y4] 48 (0, 0))) := ⟨ra_ w30 _⟩; replace HBK : Az ((w30.alloc (.cells #[.int .i64 y0, .string y1, .int .i64 y2, .int .i64 y3, .int .i64 y4] 48)).heap[g]? = some (.cells #[.string f0, .int .i64 f1, .int .i64 f2, .slice A3 f3.length c3, .slice A4 f4.length c4, .slice (some ad) f5.length c5] 44 (0, 0))) := ⟨oa_ HBK.out (aa_ (Below.refl _ _) _)⟩; replace HR30 : Az (Row5 w0 v30 X (w30.alloc (.cells #[.int .i64 y0, .string y1, .int .i64 y2, .int .i64 y3, .int .i64 y4] 48))) := ⟨⟨Kd.R_alloc HR30.out.1 _, fa_ HR30.out.2 (aa_ (Below.refl _ _) _)⟩⟩; replace HK30 : Az (KeptT W (w30.alloc (.cells #[.int .i64 y0, .string y1, .int .i64 y2, .int .i64 y3, .int .i64 y4] 48))) := ⟨HK30.out.trans (KeptT.below (aa_ (Below.refl _ _) _))⟩; clear hy hsn hle hp8 hxl e0 e1 e2 e3 e4 hqq
   go_wp2_with fail
   generalize w30.alloc (.cells #[.int .i64 y0, .string y1, .int .i64 y2, .int .i64 y3, .int .i64 y4] 48) = w31 at *; generalize w30.heap.size = b at *; have hb0 : w31.cell? ⟨b, 0, none⟩ = some (.int .i64 y0) := ba_ HBB.out 0; have hb1 : w31.cell? ⟨b, 1, none⟩ = some (.string y1) := ba_ HBB.out 1; have hb2 : w31.cell? ⟨b, 2, none⟩ = some (.int .i64 y2) := ba_ HBB.out 2; have hb3 : w31.cell? ⟨b, 3, none⟩ = some (.int .i64 y3) := ba_ HBB.out 3; have hb4 : w31.cell? ⟨b, 4, none⟩ = some (.int .i64 y4) := ba_ HBB.out 4; clear hc5 he1 hp0 hp1 hp2 hp3 hp4; refine wd_ (n := 17) (S := fun w' => w'.cell? ⟨b, 0, none⟩ = some (.int .i64 y0) ∧ w'.cell? ⟨b, 1, none⟩ = some (.string y1) ∧ w'.cell? ⟨b, 2, none⟩ = some (.int .i64 y2) ∧ w'.cell? ⟨b, 3, none⟩ = some (.int .i64 y3) ∧ w'.cell? ⟨b, 4, none⟩ = some (.int .i64 y4) ∧ Az (w'.heap[g]? = some (.cells #[.string f0, .int .i64 f1, .int .i64 f2, .slice A3 f3.length c3, .slice A4 f4.length c4, .slice (some ad) f5.length c5] 44 (0, 0))) ∧ Az (w'.heap[b]? = some (.cells #[.int .i64 y0, .string y1, .int .i64 y2, .int .i64 y3, .int .i64 y4] 48 (0, 0)))) (ds := []) (f_ 17 0) (by kernel_rfl) rfl rfl ⟨hb0, hb1, hb2, hb3, hb4, HBK, HBB⟩ (fun hHeld => ?_); replace HR30 : Az (Row5 w0 v30 X w31.drew) := ⟨⟨Kd.R_drew HR30.out.1, ga_ HR30.out.2⟩⟩; replace HK30 : Az (KeptT W w31.drew) := ⟨HK30.out⟩; generalize w31.drew = w9 at *; refine pU_ 0 137 ?_ (f_ 17 1) rfl rfl (by kernel_rfl) (fun _ _ _ h => h) (by rfl) ?_ ?_ ?_ ?_; rotate_left
   ·intro w'
    go_simp; try with_reducible rfl
   rotate_left
   ·simp only [Act.put, s1_, s2_, s3_, ia_, ja_]
    rfl
   refine pU_ 1 138 ?_ (f_ 17 2) rfl rfl (by kernel_rfl) (fun _ _ _ h => h) (by rfl) ?_ ?_ ?_ ?_; rotate_left
   ·intro w'
    go_simp; try with_reducible rfl
   rotate_left
   ·simp only [Act.put, s1_, s2_, s3_, ia_, ja_]
    rfl
   refine tA_ 2 139 ?_ (f_ 17 3) rfl rfl (by kernel_rfl) (fun _ _ _ h => h) (by rfl) ?_ hHeld ?_ ?_ ?_; rotate_left
   ·rintro w' ⟨s0, s1, s2, s3, s4, s5, s6⟩
    go_simp; try with_reducible rfl
   rotate_left
   ·simp only [Act.put, s1_, s2_, s3_, ia_, ja_]
    rfl
   refine pU_ 4 141 ?_ #[true, true, true, false, true, false, false, false, false, false, false, false, false, false, false, false, false] rfl rfl (by kernel_rfl) (fun _ _ _ h => h) (by rfl) ?_ ?_ ?_ ?_; rotate_left
   ·intro w'
    go_simp; try with_reducible rfl
   rotate_left
   ·simp only [Act.put, s1_, s2_, s3_, ia_, ja_]
    rfl
   refine tA_ 5 142 ?_ #[true, true, true, false, true, true, false, false, false, false, false, false, false, false, false, false, false] rfl rfl (by kernel_rfl) (fun _ _ _ h => h) (by rfl) ?_ hHeld ?_ ?_ ?_; rotate_left
   ·rintro w' ⟨s0, s1, s2, s3, s4, s5, s6⟩
    go_simp; try with_reducible rfl
   rotate_left
   ·simp only [Act.put, s1_, s2_, s3_, ia_, ja_]
    rfl
   refine pU_ 7 144 ?_ #[true, true, true, false, true, true, false, true, false, false, false, false, false, false, false, false, false] rfl rfl (by kernel_rfl) (fun _ _ _ h => h) (by rfl) ?_ ?_ ?_ ?_; rotate_left
   ·intro w'
    go_simp; try with_reducible rfl
   rotate_left
   ·simp only [Act.put, s1_, s2_, s3_, ia_, ja_]
    rfl
   refine tA_ 8 145 ?_ #[true, true, true, false, true, true, false, true, true, false, false, false, false, false, false, false, false] rfl rfl (by kernel_rfl) (fun _ _ _ h => h) (by rfl) ?_ hHeld ?_ ?_ ?_; rotate_left
   ·rintro w' ⟨s0, s1, s2, s3, s4, s5, s6⟩
    go_simp; try with_reducible rfl
   rotate_left
   ·simp only [Act.put, s1_, s2_, s3_, ia_, ja_]
    rfl
   refine pU_ 10 147 ?_ #[true, true, true, false, true, true, false, true, true, false, true, false, false, false, false, false, false] rfl rfl (by kernel_rfl) (fun _ _ _ h => h) (by rfl) ?_ ?_ ?_ ?_; rotate_left
   ·intro w'
    go_simp; try with_reducible rfl
   rotate_left
   ·simp only [Act.put, s1_, s2_, s3_, ia_, ja_]
    rfl
   refine tA_ 11 148 ?_ #[true, true, true, false, true, true, false, true, true, false, true, true, false, false, false, false, false] rfl rfl (by kernel_rfl) (fun _ _ _ h => h) (by rfl) ?_ hHeld ?_ ?_ ?_; rotate_left
   ·rintro w' ⟨s0, s1, s2, s3, s4, s5, s6⟩
    go_simp; try with_reducible rfl
   rotate_left
   ·simp only [Act.put, s1_, s2_, s3_, ia_, ja_]
    rfl
   refine pU_ 13 150 ?_ #[true, true, true, false, true, true, false, true, true, false, true, true, false, true, false, false, false] rfl rfl (by kernel_rfl) (fun _ _ _ h => h) (by rfl) ?_ ?_ ?_ ?_; rotate_left
   ·intro w'
    go_simp; try with_reducible rfl
   rotate_left
   ·simp only [Act.put, s1_, s2_, s3_, ia_, ja_]
    rfl
   refine tA_ 14 151 ?_ #[true, true, true, false, true, true, false, true, true, false, true, true, false, true, true, false, false] rfl rfl (by kernel_rfl) (fun _ _ _ h => h) (by rfl) ?_ hHeld ?_ ?_ ?_; rotate_left
   ·rintro w' ⟨s0, s1, s2, s3, s4, s5, s6⟩
    go_simp; try with_reducible rfl
   rotate_left
   ·simp only [Act.put, s1_, s2_, s3_, ia_, ja_]
    rfl
   refine one_ (i := 3) (N := some 140) #[true, true, true, true, true, true, false, true, true, false, true, true, false, true, true, false, false] rfl rfl (by kernel_rfl) (by decide) (fun K hK => ?_); refine wb_ Tryz.func49 (by kernel_rfl) rfl #[v30, .int .i64 y0] (by rfl) rfl rfl (by (try simp only [List.map_toArray, List.map_cons, List.map_nil]); rfl) ?_
   refine (ke_ w0 v30 X y0 _ HR30.out HL30.out).mono ?_; rintro e w31 ⟨v31, rfl, hr, hk⟩; have HR31 := aM_ hr; have HK31 := aM_ (HK30.out.trans hk); refine ⟨_, rfl, ?_⟩; refine hK.out _ _ ⟨(ba_ (hk _ _ _ (by decide) hHeld.2.2.2.2.2.2.out) 0).trans rfl, (ba_ (hk _ _ _ (by decide) hHeld.2.2.2.2.2.2.out) 1).trans rfl, (ba_ (hk _ _ _ (by decide) hHeld.2.2.2.2.2.2.out) 2).trans rfl, (ba_ (hk _ _ _ (by decide) hHeld.2.2.2.2.2.2.out) 3).trans rfl, (ba_ (hk _ _ _ (by decide) hHeld.2.2.2.2.2.2.out) 4).trans rfl, ⟨(hk _ _ _ (by decide) hHeld.2.2.2.2.2.1.out)⟩, ⟨(hk _ _ _ (by decide) hHeld.2.2.2.2.2.2.out)⟩⟩ (fun hHeld => ?_); clear hK K; refine wa_ (a' := ?_) ?_ ?_; rotate_left
   ·show Act.put _ (some 140) _ = _
    simp only [Act.put, s1_, s2_, s3_, ia_, ja_]; rfl
   refine one_ (i := 6) (N := some 143) #[true, true, true, true, true, true, true, true, true, false, true, true, false, true, true, false, false] rfl rfl (by kernel_rfl) (by decide) (fun K hK => ?_); refine wb_ Tryz.func103 (by kernel_rfl) rfl #[v31, .string y1] (by rfl) rfl rfl (by (try simp only [List.map_toArray, List.map_cons, List.map_nil]); rfl) ?_
   refine (io_ w0 v31 (X ++ num8 y0) y1 _ HR31.out HL31.out).mono ?_; rintro e w32 ⟨v32, rfl, hr, hk⟩; have HR32 := aM_ hr; have HK32 := aM_ (HK31.out.trans hk); refine ⟨_, rfl, ?_⟩; refine hK.out _ _ ⟨(ba_ (hk _ _ _ (by decide) hHeld.2.2.2.2.2.2.out) 0).trans rfl, (ba_ (hk _ _ _ (by decide) hHeld.2.2.2.2.2.2.out) 1).trans rfl, (ba_ (hk _ _ _ (by decide) hHeld.2.2.2.2.2.2.out) 2).trans rfl, (ba_ (hk _ _ _ (by decide) hHeld.2.2.2.2.2.2.out) 3).trans rfl, (ba_ (hk _ _ _ (by decide) hHeld.2.2.2.2.2.2.out) 4).trans rfl, ⟨(hk _ _ _ (by decide) hHeld.2.2.2.2.2.1.out)⟩, ⟨(hk _ _ _ (by decide) hHeld.2.2.2.2.2.2.out)⟩⟩ (fun hHeld => ?_); clear hK K; refine wa_ (a' := ?_) ?_ ?_; rotate_left
   ·show Act.put _ (some 143) _ = _
    simp only [Act.put, s1_, s2_, s3_, ia_, ja_]; rfl
   refine one_ (i := 9) (N := some 146) #[true, true, true, true, true, true, true, true, true, true, true, true, false, true, true, false, false] rfl rfl (by kernel_rfl) (by decide) (fun K hK => ?_); refine wb_ Tryz.func49 (by kernel_rfl) rfl #[v32, .int .i64 y2] (by rfl) rfl rfl (by (try simp only [List.map_toArray, List.map_cons, List.map_nil]); rfl) ?_
   refine (ke_ w0 v32 (X ++ num8 y0 ++ txt8 y1) y2 _ HR32.out HL32.out).mono ?_; rintro e w33 ⟨v33, rfl, hr, hk⟩; have HR33 := aM_ hr; have HK33 := aM_ (HK32.out.trans hk); refine ⟨_, rfl, ?_⟩; refine hK.out _ _ ⟨(ba_ (hk _ _ _ (by decide) hHeld.2.2.2.2.2.2.out) 0).trans rfl, (ba_ (hk _ _ _ (by decide) hHeld.2.2.2.2.2.2.out) 1).trans rfl, (ba_ (hk _ _ _ (by decide) hHeld.2.2.2.2.2.2.out) 2).trans rfl, (ba_ (hk _ _ _ (by decide) hHeld.2.2.2.2.2.2.out) 3).trans rfl, (ba_ (hk _ _ _ (by decide) hHeld.2.2.2.2.2.2.out) 4).trans rfl, ⟨(hk _ _ _ (by decide) hHeld.2.2.2.2.2.1.out)⟩, ⟨(hk _ _ _ (by decide) hHeld.2.2.2.2.2.2.out)⟩⟩ (fun hHeld => ?_); clear hK K; refine wa_ (a' := ?_) ?_ ?_; rotate_left
   ·show Act.put _ (some 146) _ = _
    simp only [Act.put, s1_, s2_, s3_, ia_, ja_]; rfl
   refine one_ (i := 12) (N := some 149) (f_ 17 15) rfl rfl (by kernel_rfl) (by decide) (fun K hK => ?_); refine wb_ Tryz.func49 (by kernel_rfl) rfl #[v33, .int .i64 y3] (by rfl) rfl rfl (by (try simp only [List.map_toArray, List.map_cons, List.map_nil]); rfl) ?_
   refine (ke_ w0 v33 (X ++ num8 y0 ++ txt8 y1 ++ num8 y2) y3 _ HR33.out HL33.out).mono ?_; rintro e w34 ⟨v34, rfl, hr, hk⟩; have HR34 := aM_ hr; have HK34 := aM_ (HK33.out.trans hk); refine ⟨_, rfl, ?_⟩; refine hK.out _ _ ⟨(ba_ (hk _ _ _ (by decide) hHeld.2.2.2.2.2.2.out) 0).trans rfl, (ba_ (hk _ _ _ (by decide) hHeld.2.2.2.2.2.2.out) 1).trans rfl, (ba_ (hk _ _ _ (by decide) hHeld.2.2.2.2.2.2.out) 2).trans rfl, (ba_ (hk _ _ _ (by decide) hHeld.2.2.2.2.2.2.out) 3).trans rfl, (ba_ (hk _ _ _ (by decide) hHeld.2.2.2.2.2.2.out) 4).trans rfl, ⟨(hk _ _ _ (by decide) hHeld.2.2.2.2.2.1.out)⟩, ⟨(hk _ _ _ (by decide) hHeld.2.2.2.2.2.2.out)⟩⟩ (fun hHeld => ?_); clear hK K; refine wa_ (a' := ?_) ?_ ?_; rotate_left
   ·show Act.put _ (some 149) _ = _
    simp only [Act.put, s1_, s2_, s3_, ia_, ja_]; rfl
   refine one_ (i := 15) (N := some 152) (f_ 17 16) rfl rfl (by kernel_rfl) (by decide) (fun K hK => ?_); refine wb_ Tryz.func49 (by kernel_rfl) rfl #[v34, .int .i64 y4] (by rfl) rfl rfl (by (try simp only [List.map_toArray, List.map_cons, List.map_nil]); rfl) ?_
   refine (ke_ w0 v34 (X ++ num8 y0 ++ txt8 y1 ++ num8 y2 ++ num8 y3) y4 _ HR34.out HL34.out).mono ?_; rintro e w35 ⟨v35, rfl, hr, hk⟩; have HR35 := aM_ hr; have HK35 := aM_ (HK34.out.trans hk); refine ⟨_, rfl, ?_⟩; refine hK.out _ _ ⟨(ba_ (hk _ _ _ (by decide) hHeld.2.2.2.2.2.2.out) 0).trans rfl, (ba_ (hk _ _ _ (by decide) hHeld.2.2.2.2.2.2.out) 1).trans rfl, (ba_ (hk _ _ _ (by decide) hHeld.2.2.2.2.2.2.out) 2).trans rfl, (ba_ (hk _ _ _ (by decide) hHeld.2.2.2.2.2.2.out) 3).trans rfl, (ba_ (hk _ _ _ (by decide) hHeld.2.2.2.2.2.2.out) 4).trans rfl, ⟨(hk _ _ _ (by decide) hHeld.2.2.2.2.2.1.out)⟩, ⟨(hk _ _ _ (by decide) hHeld.2.2.2.2.2.2.out)⟩⟩ (fun hHeld => ?_); clear hK K; refine wa_ (a' := ?_) ?_ ?_; rotate_left
   ·show Act.put _ (some 152) _ = _
    simp only [Act.put, s1_, s2_, s3_, ia_, ja_]; rfl
   refine pU_ 16 0 ?_ (f_ 17 17) rfl rfl (by kernel_rfl) (fun _ _ _ h => h) (by rfl) ?_ ?_ ?_ ?_; rotate_left
   ·intro w'
    go_simp; try with_reducible rfl
   rotate_left
   ·simp only [Act.put, s1_, s2_, s3_, ia_, ja_]
    rfl
   refine je_ (by kernel_rfl) ?_; have HBK36 := hHeld.2.2.2.2.2.1; have HR36 : Az (Row5 w0 v35 (Y ++ (z1.take (q + 1)).flatMap nc_) w35) := ⟨by rw [HSP.out]; exact HR35.out⟩; clear hHeld HR30 HR31 HR32 HR33 HR34 HR35 HL30 HL31 HL32 HL33 HL34 HK30 HK31 HK32 HK33 HK34 HBK HBB hb0 hb1 hb2 hb3 hb4 HSP
   go_wp2
   go_roundg (z1.length - (q + 1))
   case measure => omega
   case rel => exact ⟨q + 1, by omega, by omega, by go_num, HR36, HBK36, HK35⟩
  have he : q = z1.length := by omega
  have hiqz : decide ((q : Int) < (z1.length : Int)) = false := by simp; omega
  have hiqz' : decide (q < z1.length) = false := by simp; omega
  have HR36 : Az (Row5 w0 v30 (D5 ++ (f5.take (m + 1)).flatMap ob_) w30) := ⟨by rw [HSN.out, ← he]; exact HR30.out⟩; clear he HSN HR30 hqq
  go_wp2
  go_roundg (f5.length - (m + 1))
  case measure => omega
  case rel => exact ⟨m + 1, by omega, by omega, by go_num, HR36, HBK, HK30⟩
 have he : m = f5.length := by omega
 have hilz : decide ((m : Int) < (f5.length : Int)) = false := by simp; omega
 have hilz' : decide (m < f5.length) = false := by simp; omega
 have hc5 : w20.cell? ⟨g, 5, none⟩ = some (.slice A5 f5.length c5) := ba_ HBK.out 5
 have HRZ : Az (Row5 w0 v20 Z w20) := ⟨by rw [HX5.out, ← he]; exact HR20.out⟩
 clear he HX5 HR20 hqq
 go_wp2
 go_ret
 exact ⟨_, rfl, HRZ.out, HK20.out⟩
end Go.Proofs.YtiocgaekoeekgaaGreat.P
end
