/- Locales are written as the document says, and read as they were: BlobBack answers true for all that it is given, with no condition. Part 4: contracts of the functions that the law reaches, and words for them. -/
import Derived.Lib.AppendZeros
import Derived.Laws.AppendOwn
import Derived.Deep.DeepCutAuto
import Derived.WalkSpells
import Derived.Test.YtiocgaekoeekgaaGreatMBB3
set_option maxHeartbeats 32000000
set_option maxRecDepth 100000
section
namespace Go.Proofs.YtiocgaekoeekgaaGreat.P
open Go.RowKit YtiocgaekoeekgaaGreatW.PrintWords YtiocgaekoeekgaaGreatW.PrintLast YtiocgaekoeekgaaGreatW.PrintMore
attribute [local go_sem] vb_ tb_ fc_ dc_ ob_ nb_ ub_ sb_   
set_option linter.unusedVariables false
set_option linter.unusedSimpArgs false
attribute [local go_sem] Oper.semAt_some
theorem KeptR.size {w0 : World} {h : Nat} {A : Option Addr} {b : List Int} {c p : Nat} {W W' : World} (hk : KeptR h W W') (hr : RdAt w0 h A b c p W') : W.heap.size ≤ W'.heap.size := by
 rcases Nat.lt_or_ge W'.heap.size W.heap.size with hlt | hge
 ·exfalso
  by_cases he : W'.heap.size = h
  ·have := eb_ hr.blk
   omega
  have := eb_ (hk _ _ (Array.getElem?_eq_getElem hlt) he); omega
 exact hge
theorem xe_ {α : Type} {d : Kd α} {e : Nat} {W1 W2 : World} {base h : Nat} {ok : Nat → Prop} {v : Value} {xs : List α} (hr : d.R e W1 base ok v xs) (hk : KeptR h W1 W2) (hn : ∀ k, ok k → k ≠ h) : d.R e W2 base ok v xs :=
 Kd.R_step hr (fun k ho hlt => (hk k _ (Array.getElem?_eq_getElem hlt) (hn k ho)).trans (Array.getElem?_eq_getElem hlt).symm)
def VM {α : Type} (d : Kd α) (w0 W : World) (x : α) (v : Value) (W' : World) : Prop := ∃ cs, v = .agg cs.toArray ∧ d.M W' w0.heap.size (fun k => W.heap.size ≤ k) x cs
def VR {α : Type} (d : Kd α) (e : Nat) (w0 W : World) (xs : List α) (v : Value) (W' : World) : Prop := d.R e W' w0.heap.size (fun k => W.heap.size ≤ k) v xs
theorem KeptR.box {h g : Nat} {W W' : World} (hk : KeptR h W W') (hg : W.heap.size ≤ g) (i : Nat) (v : Value) : KeptR h W (W'.setCell ⟨g, i, none⟩ v) := fun k o hko hne =>
 (heap_setCell_other W' ⟨g, i, none⟩ k v (show k ≠ g by have := eb_ hko; omega)).trans (hk k o hko hne)
theorem RdAt.box {w0 : World} {h : Nat} {A : Option Addr} {b : List Int} {c p : Nat} {W' : World} (hr : RdAt w0 h A b c p W') {g : Nat} (hg : h < g) (i : Nat) (v : Value) : RdAt w0 h A b c p (W'.setCell ⟨g, i, none⟩ v) :=
 ⟨(heap_setCell_other W' ⟨g, i, none⟩ h v (show h ≠ g by omega)).trans hr.blk, hr.below.setCell (p := ⟨g, i, none⟩) (Nat.le_trans hr.ge (Nat.le_of_lt hg)) _, hr.ge, hr.pos⟩
def pEnt (b : List Int) (p : Nat) : Option (S46 × Nat) := (bg_ b p).bind fun z0 => (pNum b z0.2).bind fun z1 => (pNum b z1.2).bind fun z2 => some (⟨z0.1, z1.1, z2.1⟩, z2.2)
theorem entry_rd (w0 : World) (h : Nat) (A : Option Addr) (b : List Int) (c p : Nat) (W : World) (hs : Src w0 A b c) (hr : RdAt w0 h A b c p W) :
  Calls Tryz.prog 86 #[.pointer (some ⟨h, 0, none⟩)] W fun e W' => Rd w0 h A b c W (VM k46 w0 W) e W' (pEnt b p) := by
 have HS := aM_ hs
 have HG : Az (h < W.heap.size) := ⟨eb_ hr.blk⟩
 have HZ0 : Az (W.heap.size < (W.alloc (.cells #[.string ⟨#[]⟩, .int .i64 0, .int .i64 0] 46)).heap.size) := ⟨by simp⟩
 have HR0 : Az (RdAt w0 h A b c p (W.alloc (.cells #[.string ⟨#[]⟩, .int .i64 0, .int .i64 0] 46))) := ⟨⟨oa_ hr.blk (aa_ (Below.refl _ _) _), ga_ hr.below (aa_ (Below.refl _ _) _), hr.ge, hr.pos⟩⟩
 have HB0 : Az ((W.alloc (.cells #[.string ⟨#[]⟩, .int .i64 0, .int .i64 0] 46)).heap[W.heap.size]? = some (.cells #[.string ⟨#[]⟩, .int .i64 0, .int .i64 0] 46 (0, 0))) := ⟨ra_ W _⟩
 have HK0 : Az (KeptR h W (W.alloc (.cells #[.string ⟨#[]⟩, .int .i64 0, .int .i64 0] 46))) := ⟨KeptR.below (aa_ (Below.refl _ _) _)⟩
 have HP0 : Az (pEnt b p = (bg_ b p).bind fun z0 => (pNum b z0.2).bind fun z1 => (pNum b z1.2).bind fun z2 => some (⟨z0.1, z1.1, z2.1⟩, z2.2)) := ⟨rfl⟩
 have HQ0 := aM_ (jo_ w0 h A b c p _ HS.out HR0.out)
 clear hs hr
 go_enter Tryz.func86, Tryz.ntmps86
 go_wp2_with fail
 refine HQ0.out.mono ?_
 intro e w1 hq
 cases hp : bg_ b p with
 | none =>
  rw [hp] at hq; obtain ⟨⟨T, v, rfl⟩, hbl⟩ := hq
  exact ⟨rfl, by rw [HP0.out, hp]; exact ⟨⟨T, v, rfl⟩, hbl⟩⟩
 | some z =>
  obtain ⟨x0, q0⟩ := z; rw [hp] at hq; obtain ⟨⟨v, rfl, rfl⟩, hr1, hk1⟩ := hq; have HP1 : Az (pEnt b p = (pNum b q0).bind fun z1 => (pNum b z1.2).bind fun z2 => some (⟨x0, z1.1, z2.1⟩, z2.2)) := ⟨by rw [HP0.out, hp]; rfl⟩; have HR1 := aM_ hr1; have HK1 := aM_ (HK0.out.trans hk1); have HZ1 := aM_ (Nat.lt_of_lt_of_le HZ0.out (hk1.size hr1)); have HB1 := aM_ (hk1 _ _ HB0.out (Nat.ne_of_gt HG.out)); have HQ1 := aM_ (nc_ w0 h A b c q0 w1 HS.out HR1.out); clear hr1 hk1 hp HQ0 HR0 HB0 HK0 HP0 HZ0
  go_wp2_with fail
  refine HQ1.out.mono ?_; intro e w2 hq
  cases hp : pNum b q0 with
  | none =>
   rw [hp] at hq; obtain ⟨⟨T, v, rfl⟩, hbl⟩ := hq
   exact ⟨rfl, by rw [HP1.out, hp]; exact ⟨⟨T, v, rfl⟩, hbl⟩⟩
  | some z =>
   obtain ⟨x1, q1⟩ := z; rw [hp] at hq; obtain ⟨⟨v, rfl, rfl⟩, hr1, hk1⟩ := hq; have HP2 : Az (pEnt b p = (pNum b q1).bind fun z2 => some (⟨x0, x1, z2.1⟩, z2.2)) := ⟨by rw [HP1.out, hp]; rfl⟩; have HR2 := aM_ hr1; have HK2 := aM_ (HK1.out.trans hk1); have HZ2 := aM_ (Nat.lt_of_lt_of_le HZ1.out (hk1.size hr1)); have HB2 := aM_ (hk1 _ _ HB1.out (Nat.ne_of_gt HG.out)); have HQ2 := aM_ (nc_ w0 h A b c q1 w2 HS.out HR2.out); clear hr1 hk1 hp HQ1 HR1 HB1 HK1 HP1 HZ1
   go_wp2_with fail
   refine HQ2.out.mono ?_; intro e w3 hq
   cases hp : pNum b q1 with
   | none =>
    rw [hp] at hq; obtain ⟨⟨T, v, rfl⟩, hbl⟩ := hq
    exact ⟨rfl, by rw [HP2.out, hp]; exact ⟨⟨T, v, rfl⟩, hbl⟩⟩
   | some z =>
    obtain ⟨x2, q2⟩ := z; rw [hp] at hq; obtain ⟨⟨v, rfl, rfl⟩, hr1, hk1⟩ := hq; have HP3 : Az (pEnt b p = some (⟨x0, x1, x2⟩, q2)) := ⟨by rw [HP2.out, hp]; rfl⟩; have HR3 := aM_ hr1; have HK3 := aM_ (HK2.out.trans hk1); have HZ3 := aM_ (Nat.lt_of_lt_of_le HZ2.out (hk1.size hr1)); have HB3 := aM_ (hk1 _ _ HB2.out (Nat.ne_of_gt HG.out)); clear hr1 hk1 hp HQ2 HR2 HB2 HK2 HP2 HZ2; have hf_0 := da_ HB3.out 0; have hc_0 := ba_ HB3.out 0; have hf_1 := da_ HB3.out 1; have hc_1 := ba_ HB3.out 1; have hf_2 := da_ HB3.out 2; have hc_2 := ba_ HB3.out 2; have hu1 := Tryz.underlying46
    go_wp2
    have hb1 : (((w3.setCell ⟨W.heap.size, 0, none⟩ (.string x0)).setCell ⟨W.heap.size, 1, none⟩ (.int .i64 x1)).setCell ⟨W.heap.size, 2, none⟩ (.int .i64 x2)).heap[W.heap.size]? = some (.cells #[.string x0, .int .i64 x1, .int .i64 x2] 46 (0, 0)) := by simpa using (va_ (va_ (va_ HB3.out 0 (.string x0)) 1 (.int .i64 x1)) 2 (.int .i64 x2))
    refine bodyPost_ret (results_cell_row rfl _ _ W.heap.size 46 #[.string x0, .int .i64 x1, .int .i64 x2] (0, 0) _ rfl hb1 Tryz.underlying46 rfl (by kernel_rfl)) rfl ?_; rw [HP3.out]; exact ⟨⟨_, rfl, _, rfl, qc_ _ _ _ (⟨x0, x1, x2⟩ : S46) ⟩, (RdAt.box (RdAt.box (RdAt.box HR3.out HG.out _ _) HG.out _ _) HG.out _ _), (KeptR.box (KeptR.box (KeptR.box HK3.out (Nat.le_refl _) _ _) (Nat.le_refl _) _ _) (Nat.le_refl _) _ _)⟩
def sd_ (b : List Int) (p : Nat) : Option (S48 × Nat) := (pNum b p).bind fun z0 => (bg_ b z0.2).bind fun z1 => (pNum b z1.2).bind fun z2 => (pNum b z2.2).bind fun z3 => (pNum b z3.2).bind fun z4 => some (⟨z0.1, z1.1, z2.1, z3.1, z4.1⟩, z4.2)
theorem part_rd (w0 : World) (h : Nat) (A : Option Addr) (b : List Int) (c p : Nat) (W : World) (hs : Src w0 A b c) (hr : RdAt w0 h A b c p W) :
  Calls Tryz.prog 129 #[.pointer (some ⟨h, 0, none⟩)] W fun e W' => Rd w0 h A b c W (VM k48 w0 W) e W' (sd_ b p) := by
 have HS := aM_ hs
 have HG : Az (h < W.heap.size) := ⟨eb_ hr.blk⟩
 have HZ0 : Az (W.heap.size < (W.alloc (.cells #[.int .i64 0, .string ⟨#[]⟩, .int .i64 0, .int .i64 0, .int .i64 0] 48)).heap.size) := ⟨by simp⟩
 have HR0 : Az (RdAt w0 h A b c p (W.alloc (.cells #[.int .i64 0, .string ⟨#[]⟩, .int .i64 0, .int .i64 0, .int .i64 0] 48))) := ⟨⟨oa_ hr.blk (aa_ (Below.refl _ _) _), ga_ hr.below (aa_ (Below.refl _ _) _), hr.ge, hr.pos⟩⟩
 have HB0 : Az ((W.alloc (.cells #[.int .i64 0, .string ⟨#[]⟩, .int .i64 0, .int .i64 0, .int .i64 0] 48)).heap[W.heap.size]? = some (.cells #[.int .i64 0, .string ⟨#[]⟩, .int .i64 0, .int .i64 0, .int .i64 0] 48 (0, 0))) := ⟨ra_ W _⟩
 have HK0 : Az (KeptR h W (W.alloc (.cells #[.int .i64 0, .string ⟨#[]⟩, .int .i64 0, .int .i64 0, .int .i64 0] 48))) := ⟨KeptR.below (aa_ (Below.refl _ _) _)⟩
 have HP0 : Az (sd_ b p = (pNum b p).bind fun z0 => (bg_ b z0.2).bind fun z1 => (pNum b z1.2).bind fun z2 => (pNum b z2.2).bind fun z3 => (pNum b z3.2).bind fun z4 => some (⟨z0.1, z1.1, z2.1, z3.1, z4.1⟩, z4.2)) := ⟨rfl⟩
 have HQ0 := aM_ (nc_ w0 h A b c p _ HS.out HR0.out)
 clear hs hr
 go_enter Tryz.func129, Tryz.ntmps129
 go_wp2_with fail
 refine HQ0.out.mono ?_
 intro e w1 hq
 cases hp : pNum b p with
 | none =>
  rw [hp] at hq; obtain ⟨⟨T, v, rfl⟩, hbl⟩ := hq
  exact ⟨rfl, by rw [HP0.out, hp]; exact ⟨⟨T, v, rfl⟩, hbl⟩⟩
 | some z =>
  obtain ⟨x0, q0⟩ := z; rw [hp] at hq; obtain ⟨⟨v, rfl, rfl⟩, hr1, hk1⟩ := hq; have HP1 : Az (sd_ b p = (bg_ b q0).bind fun z1 => (pNum b z1.2).bind fun z2 => (pNum b z2.2).bind fun z3 => (pNum b z3.2).bind fun z4 => some (⟨x0, z1.1, z2.1, z3.1, z4.1⟩, z4.2)) := ⟨by rw [HP0.out, hp]; rfl⟩; have HR1 := aM_ hr1; have HK1 := aM_ (HK0.out.trans hk1); have HZ1 := aM_ (Nat.lt_of_lt_of_le HZ0.out (hk1.size hr1)); have HB1 := aM_ (hk1 _ _ HB0.out (Nat.ne_of_gt HG.out)); have HQ1 := aM_ (jo_ w0 h A b c q0 w1 HS.out HR1.out); clear hr1 hk1 hp HQ0 HR0 HB0 HK0 HP0 HZ0
  go_wp2_with fail
  refine HQ1.out.mono ?_; intro e w2 hq
  cases hp : bg_ b q0 with
  | none =>
   rw [hp] at hq; obtain ⟨⟨T, v, rfl⟩, hbl⟩ := hq
   exact ⟨rfl, by rw [HP1.out, hp]; exact ⟨⟨T, v, rfl⟩, hbl⟩⟩
  | some z =>
   obtain ⟨x1, q1⟩ := z; rw [hp] at hq; obtain ⟨⟨v, rfl, rfl⟩, hr1, hk1⟩ := hq; have HP2 : Az (sd_ b p = (pNum b q1).bind fun z2 => (pNum b z2.2).bind fun z3 => (pNum b z3.2).bind fun z4 => some (⟨x0, x1, z2.1, z3.1, z4.1⟩, z4.2)) := ⟨by rw [HP1.out, hp]; rfl⟩; have HR2 := aM_ hr1; have HK2 := aM_ (HK1.out.trans hk1); have HZ2 := aM_ (Nat.lt_of_lt_of_le HZ1.out (hk1.size hr1)); have HB2 := aM_ (hk1 _ _ HB1.out (Nat.ne_of_gt HG.out)); have HQ2 := aM_ (nc_ w0 h A b c q1 w2 HS.out HR2.out); clear hr1 hk1 hp HQ1 HR1 HB1 HK1 HP1 HZ1
   go_wp2_with fail
   refine HQ2.out.mono ?_; intro e w3 hq
   cases hp : pNum b q1 with
   | none =>
    rw [hp] at hq; obtain ⟨⟨T, v, rfl⟩, hbl⟩ := hq
    exact ⟨rfl, by rw [HP2.out, hp]; exact ⟨⟨T, v, rfl⟩, hbl⟩⟩
   | some z =>
    obtain ⟨x2, q2⟩ := z; rw [hp] at hq; obtain ⟨⟨v, rfl, rfl⟩, hr1, hk1⟩ := hq; have HP3 : Az (sd_ b p = (pNum b q2).bind fun z3 => (pNum b z3.2).bind fun z4 => some (⟨x0, x1, x2, z3.1, z4.1⟩, z4.2)) := ⟨by rw [HP2.out, hp]; rfl⟩; have HR3 := aM_ hr1; have HK3 := aM_ (HK2.out.trans hk1); have HZ3 := aM_ (Nat.lt_of_lt_of_le HZ2.out (hk1.size hr1)); have HB3 := aM_ (hk1 _ _ HB2.out (Nat.ne_of_gt HG.out)); have HQ3 := aM_ (nc_ w0 h A b c q2 w3 HS.out HR3.out); clear hr1 hk1 hp HQ2 HR2 HB2 HK2 HP2 HZ2
    go_wp2_with fail
    refine HQ3.out.mono ?_; intro e w4 hq
    cases hp : pNum b q2 with
    | none =>
     rw [hp] at hq; obtain ⟨⟨T, v, rfl⟩, hbl⟩ := hq
     exact ⟨rfl, by rw [HP3.out, hp]; exact ⟨⟨T, v, rfl⟩, hbl⟩⟩
    | some z =>
     obtain ⟨x3, q3⟩ := z; rw [hp] at hq; obtain ⟨⟨v, rfl, rfl⟩, hr1, hk1⟩ := hq; have HP4 : Az (sd_ b p = (pNum b q3).bind fun z4 => some (⟨x0, x1, x2, x3, z4.1⟩, z4.2)) := ⟨by rw [HP3.out, hp]; rfl⟩; have HR4 := aM_ hr1; have HK4 := aM_ (HK3.out.trans hk1); have HZ4 := aM_ (Nat.lt_of_lt_of_le HZ3.out (hk1.size hr1)); have HB4 := aM_ (hk1 _ _ HB3.out (Nat.ne_of_gt HG.out)); have HQ4 := aM_ (nc_ w0 h A b c q3 w4 HS.out HR4.out); clear hr1 hk1 hp HQ3 HR3 HB3 HK3 HP3 HZ3
     go_wp2_with fail
     refine HQ4.out.mono ?_; intro e w5 hq
     cases hp : pNum b q3 with
     | none =>
      rw [hp] at hq; obtain ⟨⟨T, v, rfl⟩, hbl⟩ := hq
      exact ⟨rfl, by rw [HP4.out, hp]; exact ⟨⟨T, v, rfl⟩, hbl⟩⟩
     | some z =>
      obtain ⟨x4, q4⟩ := z; rw [hp] at hq; obtain ⟨⟨v, rfl, rfl⟩, hr1, hk1⟩ := hq; have HP5 : Az (sd_ b p = some (⟨x0, x1, x2, x3, x4⟩, q4)) := ⟨by rw [HP4.out, hp]; rfl⟩; have HR5 := aM_ hr1; have HK5 := aM_ (HK4.out.trans hk1); have HZ5 := aM_ (Nat.lt_of_lt_of_le HZ4.out (hk1.size hr1)); have HB5 := aM_ (hk1 _ _ HB4.out (Nat.ne_of_gt HG.out)); clear hr1 hk1 hp HQ4 HR4 HB4 HK4 HP4 HZ4; have hf_0 := da_ HB5.out 0; have hc_0 := ba_ HB5.out 0; have hf_1 := da_ HB5.out 1; have hc_1 := ba_ HB5.out 1; have hf_2 := da_ HB5.out 2; have hc_2 := ba_ HB5.out 2; have hf_3 := da_ HB5.out 3; have hc_3 := ba_ HB5.out 3; have hf_4 := da_ HB5.out 4; have hc_4 := ba_ HB5.out 4; have hu1 := Tryz.underlying48
      go_wp2
      have hb1 : (((((w5.setCell ⟨W.heap.size, 0, none⟩ (.int .i64 x0)).setCell ⟨W.heap.size, 1, none⟩ (.string x1)).setCell ⟨W.heap.size, 2, none⟩ (.int .i64 x2)).setCell ⟨W.heap.size, 3, none⟩ (.int .i64 x3)).setCell ⟨W.heap.size, 4, none⟩ (.int .i64 x4)).heap[W.heap.size]? = some (.cells #[.int .i64 x0, .string x1, .int .i64 x2, .int .i64 x3, .int .i64 x4] 48 (0, 0)) := by simpa using (va_ (va_ (va_ (va_ (va_ HB5.out 0 (.int .i64 x0)) 1 (.string x1)) 2 (.int .i64 x2)) 3 (.int .i64 x3)) 4 (.int .i64 x4))
      refine bodyPost_ret (results_cell_row rfl _ _ W.heap.size 48 #[.int .i64 x0, .string x1, .int .i64 x2, .int .i64 x3, .int .i64 x4] (0, 0) _ rfl hb1 Tryz.underlying48 rfl (by kernel_rfl)) rfl ?_; rw [HP5.out]; exact ⟨⟨_, rfl, _, rfl, hp_ _ _ _ (⟨x0, x1, x2, x3, x4⟩ : S48) ⟩, (RdAt.box (RdAt.box (RdAt.box (RdAt.box (RdAt.box HR5.out HG.out _ _) HG.out _ _) HG.out _ _) HG.out _ _) HG.out _ _), (KeptR.box (KeptR.box (KeptR.box (KeptR.box (KeptR.box HK5.out (Nat.le_refl _) _ _) (Nat.le_refl _) _ _) (Nat.le_refl _) _ _) (Nat.le_refl _) _ _) (Nat.le_refl _) _ _)⟩
theorem Kd.R_of_own0 {α : Type} {d : Kd α} {e b s : Nat} (w : World) (hb : b ≤ w.heap.size) (hs : s ≤ w.heap.size) : d.R e (w.alloc (.cells #[] e)) b (fun k => s ≤ k) (.slice (some ⟨w.heap.size, 0, none⟩) 0 0) [] :=
 ⟨fun k hk => by simp [Value.ownBlock] at hk; omega, [], ⟨by simp, .inr ⟨w.heap.size, 0, #[], rfl, hb, ra_ w _, Nat.le_refl _, by simp [maxLen], by simp, by simp⟩⟩, Reps.none _ _⟩
theorem cloneI (A0 : Option Addr) (c0 : Nat) (l0 : List Int) (w : World) (s b : Nat) (hr0 : Kd.R (Kd.int .i64) 3 w b (fun k => s ≤ k) (.slice A0 l0.length c0) l0) (hs : s ≤ w.heap.size) (hb : b ≤ w.heap.size) (hl : l0.length * 8 ≤ 140737488355328) :
  Calls Tryz.prog 112 #[.slice A0 l0.length c0] w fun e w' => ∃ v0_ : Value, e = .returned (v0_) ∧ Kd.R (Kd.int .i64) 3 w' b (fun k => s ≤ k) v0_ l0 ∧ Below w.heap.size w w' := by
 have q22 : ∀ (w : World) (a : Option Addr) (n c n' c' : Nat), (binOp .eql 35 (.slice a n c) (.slice none n' c')).run Tryz.prog w = .ok (.bool a.isNone) w := fun w a n c n' c' => Lib.run_eql_slice_nil w _ _ a n c n' c' Tryz.underlying35
 have HR := aM_ hr0
 have HL := aM_ hl
 have HB := aM_ hb
 have HS := aM_ hs
 clear hr0 hl hb hs
 cases A0 with
 | none =>
  have h0 : l0 = [] := by
   cases l0 with
   | nil => rfl
   | cons x l =>
    obtain ⟨A1, c1, e1, _, hc1⟩ := Kd.R_reads HR.out; injection e1 with e1; subst e1; obtain ⟨ad, e, _⟩ := hc1.2.2 (by simp)
    cases e
  subst h0
  go_enter Tryz.func112, Tryz.ntmps112
  go_wp2
  go_ret
  exact ⟨_, rfl, Kd.R_nil _ _ _ _ _, Below.refl _ _⟩
 | some ad =>
  have hrr : Az (ReadsRow (Kd.M (Kd.int .i64) (w.alloc (.cells #[] 3)) b (fun k => s ≤ k ∧ k < w.heap.size)) (Kd.sz (Kd.int .i64)) (w.alloc (.cells #[] 3)) (some ad) l0.length l0) := ⟨by
   obtain ⟨A1, c1, e1, _, hc1⟩ := OwnRow.reads HR.out.2; injection e1 with e1; subst e1
   exact hc1.imp_ (aa_ (Below.refl _ _) _) (fun x cs hm => Kd.M_below (Kd.M_mono _ (fun k hk => ⟨hk.1.1, hk.2.2.1⟩) (Kd.M_bound _ hm)) (aa_ (Below.refl _ _) _))⟩
  go_enter Tryz.func112, Tryz.ntmps112
  go_wp2_with (at_builtin; go_loud (refine Kd.R_append_rows (Kd.int .i64) (w0 := w) b rfl (.tmp 5) (.tmp 6) 35 3 (.int .i64 0) 8 rfl Tryz.underlying35 (by kernel_rfl) rfl (by show 0 < 1; decide) (by decide) (.slice (some ⟨w.heap.size, 0, none⟩) 0 0) [] l0 (some ad) l0.length c0 (fun k => s ≤ k) (fun k => s ≤ k ∧ k < w.heap.size) rfl rfl ?hO hrr.out (fun _ _ h => h) ?hok ?hf ?hB ?hb ?hl ?_); (case hO => go_loud (exact Kd.R_of_own0 w HB.out HS.out)); (case hok => go_loud (exact (fun k hk => ⟨hk.1, by simp [Value.ownBlock]; omega⟩))); (case hf => go_loud (exact (fun k hk => by have := HS.out; simp at hk; omega))); (case hB => go_loud (exact (aa_ (Below.refl _ _) _).mono HB.out)); (case hb => go_loud (have := HB.out; simp; omega)); (case hl => go_loud (have := HL.out; simp; omega)); intro v1 w1 ho hb hg hat)
  have ho' : Kd.R (Kd.int .i64) 3 w1 b (fun k => s ≤ k) v1 l0 := ho; have HO := aM_ ho'; have HB1 : Az (Below w.heap.size w w1) := ⟨Below.grown (aa_ (Below.refl _ _) (.cells #[] 3)) hg (by simp) (fun k hk => by simp [Value.ownBlock] at hk; omega)⟩; clear ho ho' hb hg hat
  go_wp2
  go_ret
  exact ⟨_, rfl, HO.out, HB1.out⟩
theorem cloneE (A0 : Option Addr) (c0 : Nat) (l0 : List S46) (w : World) (s b : Nat) (hr0 : Kd.R k46 46 w b (fun k => s ≤ k) (.slice A0 l0.length c0) l0) (hs : s ≤ w.heap.size) (hb : b ≤ w.heap.size) (hl : l0.length * 32 ≤ 140737488355328) :
  Calls Tryz.prog 65 #[.slice A0 l0.length c0] w fun e w' => ∃ v0_ : Value, e = .returned (v0_) ∧ Kd.R k46 46 w' b (fun k => s ≤ k) v0_ l0 ∧ Below w.heap.size w w' := by
 have q22 : ∀ (w : World) (a : Option Addr) (n c n' c' : Nat), (binOp .eql 40 (.slice a n c) (.slice none n' c')).run Tryz.prog w = .ok (.bool a.isNone) w := fun w a n c n' c' => Lib.run_eql_slice_nil w _ _ a n c n' c' Tryz.underlying40
 have HR := aM_ hr0
 have HL := aM_ hl
 have HB := aM_ hb
 have HS := aM_ hs
 clear hr0 hl hb hs
 cases A0 with
 | none =>
  have h0 : l0 = [] := by
   cases l0 with
   | nil => rfl
   | cons x l =>
    obtain ⟨A1, c1, e1, _, hc1⟩ := Kd.R_reads HR.out; injection e1 with e1; subst e1; obtain ⟨ad, e, _⟩ := hc1.2.2 (by simp)
    cases e
  subst h0
  go_enter Tryz.func65, Tryz.ntmps65
  go_wp2
  go_ret
  exact ⟨_, rfl, Kd.R_nil _ _ _ _ _, Below.refl _ _⟩
 | some ad =>
  have hrr : Az (ReadsRow (Kd.M k46 (w.alloc (.cells #[] 46)) b (fun k => s ≤ k ∧ k < w.heap.size)) (Kd.sz k46) (w.alloc (.cells #[] 46)) (some ad) l0.length l0) := ⟨by
   obtain ⟨A1, c1, e1, _, hc1⟩ := OwnRow.reads HR.out.2; injection e1 with e1; subst e1
   exact hc1.imp_ (aa_ (Below.refl _ _) _) (fun x cs hm => Kd.M_below (Kd.M_mono _ (fun k hk => ⟨hk.1.1, hk.2.2.1⟩) (Kd.M_bound _ hm)) (aa_ (Below.refl _ _) _))⟩
  go_enter Tryz.func65, Tryz.ntmps65
  go_wp2_with (at_builtin; go_loud (refine Kd.R_append_rows k46 (w0 := w) b rfl (.tmp 5) (.tmp 6) 40 46 (.agg #[.string ⟨#[]⟩, .int .i64 0, .int .i64 0]) 32 rfl Tryz.underlying40 (by kernel_rfl) rfl (by show 0 < 3; decide) (by decide) (.slice (some ⟨w.heap.size, 0, none⟩) 0 0) [] l0 (some ad) l0.length c0 (fun k => s ≤ k) (fun k => s ≤ k ∧ k < w.heap.size) rfl rfl ?hO hrr.out (fun _ _ h => h) ?hok ?hf ?hB ?hb ?hl ?_); (case hO => go_loud (exact Kd.R_of_own0 w HB.out HS.out)); (case hok => go_loud (exact (fun k hk => ⟨hk.1, by simp [Value.ownBlock]; omega⟩))); (case hf => go_loud (exact (fun k hk => by have := HS.out; simp at hk; omega))); (case hB => go_loud (exact (aa_ (Below.refl _ _) _).mono HB.out)); (case hb => go_loud (have := HB.out; simp; omega)); (case hl => go_loud (have := HL.out; simp; omega)); intro v1 w1 ho hb hg hat)
  have ho' : Kd.R k46 46 w1 b (fun k => s ≤ k) v1 l0 := ho; have HO := aM_ ho'; have HB1 : Az (Below w.heap.size w w1) := ⟨Below.grown (aa_ (Below.refl _ _) (.cells #[] 46)) hg (by simp) (fun k hk => by simp [Value.ownBlock] at hk; omega)⟩; clear ho ho' hb hg hat
  go_wp2
  go_ret
  exact ⟨_, rfl, HO.out, HB1.out⟩
theorem cloneP (A0 : Option Addr) (c0 : Nat) (l0 : List S48) (w : World) (s b : Nat) (hr0 : Kd.R k48 48 w b (fun k => s ≤ k) (.slice A0 l0.length c0) l0) (hs : s ≤ w.heap.size) (hb : b ≤ w.heap.size) (hl : l0.length * 48 ≤ 140737488355328) :
  Calls Tryz.prog 115 #[.slice A0 l0.length c0] w fun e w' => ∃ v0_ : Value, e = .returned (v0_) ∧ Kd.R k48 48 w' b (fun k => s ≤ k) v0_ l0 ∧ Below w.heap.size w w' := by
 have q22 : ∀ (w : World) (a : Option Addr) (n c n' c' : Nat), (binOp .eql 50 (.slice a n c) (.slice none n' c')).run Tryz.prog w = .ok (.bool a.isNone) w := fun w a n c n' c' => Lib.run_eql_slice_nil w _ _ a n c n' c' Tryz.underlying50
 have HR := aM_ hr0
 have HL := aM_ hl
 have HB := aM_ hb
 have HS := aM_ hs
 clear hr0 hl hb hs
 cases A0 with
 | none =>
  have h0 : l0 = [] := by
   cases l0 with
   | nil => rfl
   | cons x l =>
    obtain ⟨A1, c1, e1, _, hc1⟩ := Kd.R_reads HR.out; injection e1 with e1; subst e1; obtain ⟨ad, e, _⟩ := hc1.2.2 (by simp)
    cases e
  subst h0
  go_enter Tryz.func115, Tryz.ntmps115
  go_wp2
  go_ret
  exact ⟨_, rfl, Kd.R_nil _ _ _ _ _, Below.refl _ _⟩
 | some ad =>
  have hrr : Az (ReadsRow (Kd.M k48 (w.alloc (.cells #[] 48)) b (fun k => s ≤ k ∧ k < w.heap.size)) (Kd.sz k48) (w.alloc (.cells #[] 48)) (some ad) l0.length l0) := ⟨by
   obtain ⟨A1, c1, e1, _, hc1⟩ := OwnRow.reads HR.out.2; injection e1 with e1; subst e1
   exact hc1.imp_ (aa_ (Below.refl _ _) _) (fun x cs hm => Kd.M_below (Kd.M_mono _ (fun k hk => ⟨hk.1.1, hk.2.2.1⟩) (Kd.M_bound _ hm)) (aa_ (Below.refl _ _) _))⟩
  go_enter Tryz.func115, Tryz.ntmps115
  go_wp2_with (at_builtin; go_loud (refine Kd.R_append_rows k48 (w0 := w) b rfl (.tmp 5) (.tmp 6) 50 48 (.agg #[.int .i64 0, .string ⟨#[]⟩, .int .i64 0, .int .i64 0, .int .i64 0]) 48 rfl Tryz.underlying50 (by kernel_rfl) rfl (by show 0 < 5; decide) (by decide) (.slice (some ⟨w.heap.size, 0, none⟩) 0 0) [] l0 (some ad) l0.length c0 (fun k => s ≤ k) (fun k => s ≤ k ∧ k < w.heap.size) rfl rfl ?hO hrr.out (fun _ _ h => h) ?hok ?hf ?hB ?hb ?hl ?_); (case hO => go_loud (exact Kd.R_of_own0 w HB.out HS.out)); (case hok => go_loud (exact (fun k hk => ⟨hk.1, by simp [Value.ownBlock]; omega⟩))); (case hf => go_loud (exact (fun k hk => by have := HS.out; simp at hk; omega))); (case hB => go_loud (exact (aa_ (Below.refl _ _) _).mono HB.out)); (case hb => go_loud (have := HB.out; simp; omega)); (case hl => go_loud (have := HL.out; simp; omega)); intro v1 w1 ho hb hg hat)
  have ho' : Kd.R k48 48 w1 b (fun k => s ≤ k) v1 l0 := ho; have HO := aM_ ho'; have HB1 : Az (Below w.heap.size w w1) := ⟨Below.grown (aa_ (Below.refl _ _) (.cells #[] 48)) hg (by simp) (fun k hk => by simp [Value.ownBlock] at hk; omega)⟩; clear ho ho' hb hg hat
  go_wp2
  go_ret
  exact ⟨_, rfl, HO.out, HB1.out⟩
theorem cloneR (A0 : Option Addr) (c0 : Nat) (l0 : List S56) (w : World) (s b : Nat) (hr0 : Kd.R k56 56 w b (fun k => s ≤ k) (.slice A0 l0.length c0) l0) (hs : s ≤ w.heap.size) (hb : b ≤ w.heap.size) (hl : l0.length * 72 ≤ 140737488355328) :
  Calls Tryz.prog 102 #[.slice A0 l0.length c0] w fun e w' => ∃ v0_ : Value, e = .returned (v0_) ∧ Kd.R k56 56 w' b (fun k => s ≤ k) v0_ l0 ∧ Below w.heap.size w w' := by
 have q22 : ∀ (w : World) (a : Option Addr) (n c n' c' : Nat), (binOp .eql 41 (.slice a n c) (.slice none n' c')).run Tryz.prog w = .ok (.bool a.isNone) w := fun w a n c n' c' => Lib.run_eql_slice_nil w _ _ a n c n' c' Tryz.underlying41
 have HR := aM_ hr0
 have HL := aM_ hl
 have HB := aM_ hb
 have HS := aM_ hs
 clear hr0 hl hb hs
 cases A0 with
 | none =>
  have h0 : l0 = [] := by
   cases l0 with
   | nil => rfl
   | cons x l =>
    obtain ⟨A1, c1, e1, _, hc1⟩ := Kd.R_reads HR.out; injection e1 with e1; subst e1; obtain ⟨ad, e, _⟩ := hc1.2.2 (by simp)
    cases e
  subst h0
  go_enter Tryz.func102, Tryz.ntmps102
  go_wp2
  go_ret
  exact ⟨_, rfl, Kd.R_nil _ _ _ _ _, Below.refl _ _⟩
 | some ad =>
  have hrr : Az (ReadsRow (Kd.M k56 (w.alloc (.cells #[] 56)) b (fun k => s ≤ k ∧ k < w.heap.size)) (Kd.sz k56) (w.alloc (.cells #[] 56)) (some ad) l0.length l0) := ⟨by
   obtain ⟨A1, c1, e1, _, hc1⟩ := OwnRow.reads HR.out.2; injection e1 with e1; subst e1
   exact hc1.imp_ (aa_ (Below.refl _ _) _) (fun x cs hm => Kd.M_below (Kd.M_mono _ (fun k hk => ⟨hk.1.1, hk.2.2.1⟩) (Kd.M_bound _ hm)) (aa_ (Below.refl _ _) _))⟩
  go_enter Tryz.func102, Tryz.ntmps102
  go_wp2_with (at_builtin; go_loud (refine Kd.R_append_rows k56 (w0 := w) b rfl (.tmp 5) (.tmp 6) 41 56 (.agg #[.int .i64 0, .slice none 0 0, .int .i64 0, .slice none 0 0, .int .i64 0]) 72 rfl Tryz.underlying41 (by kernel_rfl) rfl (by show 0 < 5; decide) (by decide) (.slice (some ⟨w.heap.size, 0, none⟩) 0 0) [] l0 (some ad) l0.length c0 (fun k => s ≤ k) (fun k => s ≤ k ∧ k < w.heap.size) rfl rfl ?hO hrr.out (fun _ _ h => h) ?hok ?hf ?hB ?hb ?hl ?_); (case hO => go_loud (exact Kd.R_of_own0 w HB.out HS.out)); (case hok => go_loud (exact (fun k hk => ⟨hk.1, by simp [Value.ownBlock]; omega⟩))); (case hf => go_loud (exact (fun k hk => by have := HS.out; simp at hk; omega))); (case hB => go_loud (exact (aa_ (Below.refl _ _) _).mono HB.out)); (case hb => go_loud (have := HB.out; simp; omega)); (case hl => go_loud (have := HL.out; simp; omega)); intro v1 w1 ho hb hg hat)
  have ho' : Kd.R k56 56 w1 b (fun k => s ≤ k) v1 l0 := ho; have HO := aM_ ho'; have HB1 : Az (Below w.heap.size w w1) := ⟨Below.grown (aa_ (Below.refl _ _) (.cells #[] 56)) hg (by simp) (fun k hk => by simp [Value.ownBlock] at hk; omega)⟩; clear ho ho' hb hg hat
  go_wp2
  go_ret
  exact ⟨_, rfl, HO.out, HB1.out⟩
theorem cloneS (A0 : Option Addr) (c0 : Nat) (l0 : List S52) (w : World) (s b : Nat) (hr0 : Kd.R k52 52 w b (fun k => s ≤ k) (.slice A0 l0.length c0) l0) (hs : s ≤ w.heap.size) (hb : b ≤ w.heap.size) (hl : l0.length * 32 ≤ 140737488355328) :
  Calls Tryz.prog 66 #[.slice A0 l0.length c0] w fun e w' => ∃ v0_ : Value, e = .returned (v0_) ∧ Kd.R k52 52 w' b (fun k => s ≤ k) v0_ l0 ∧ Below w.heap.size w w' := by
 have q22 : ∀ (w : World) (a : Option Addr) (n c n' c' : Nat), (binOp .eql 42 (.slice a n c) (.slice none n' c')).run Tryz.prog w = .ok (.bool a.isNone) w := fun w a n c n' c' => Lib.run_eql_slice_nil w _ _ a n c n' c' Tryz.underlying42
 have HR := aM_ hr0
 have HL := aM_ hl
 have HB := aM_ hb
 have HS := aM_ hs
 clear hr0 hl hb hs
 cases A0 with
 | none =>
  have h0 : l0 = [] := by
   cases l0 with
   | nil => rfl
   | cons x l =>
    obtain ⟨A1, c1, e1, _, hc1⟩ := Kd.R_reads HR.out; injection e1 with e1; subst e1; obtain ⟨ad, e, _⟩ := hc1.2.2 (by simp)
    cases e
  subst h0
  go_enter Tryz.func66, Tryz.ntmps66
  go_wp2
  go_ret
  exact ⟨_, rfl, Kd.R_nil _ _ _ _ _, Below.refl _ _⟩
 | some ad =>
  have hrr : Az (ReadsRow (Kd.M k52 (w.alloc (.cells #[] 52)) b (fun k => s ≤ k ∧ k < w.heap.size)) (Kd.sz k52) (w.alloc (.cells #[] 52)) (some ad) l0.length l0) := ⟨by
   obtain ⟨A1, c1, e1, _, hc1⟩ := OwnRow.reads HR.out.2; injection e1 with e1; subst e1
   exact hc1.imp_ (aa_ (Below.refl _ _) _) (fun x cs hm => Kd.M_below (Kd.M_mono _ (fun k hk => ⟨hk.1.1, hk.2.2.1⟩) (Kd.M_bound _ hm)) (aa_ (Below.refl _ _) _))⟩
  go_enter Tryz.func66, Tryz.ntmps66
  go_wp2_with (at_builtin; go_loud (refine Kd.R_append_rows k52 (w0 := w) b rfl (.tmp 5) (.tmp 6) 42 52 (.agg #[.int .i64 0, .slice none 0 0]) 32 rfl Tryz.underlying42 (by kernel_rfl) rfl (by show 0 < 2; decide) (by decide) (.slice (some ⟨w.heap.size, 0, none⟩) 0 0) [] l0 (some ad) l0.length c0 (fun k => s ≤ k) (fun k => s ≤ k ∧ k < w.heap.size) rfl rfl ?hO hrr.out (fun _ _ h => h) ?hok ?hf ?hB ?hb ?hl ?_); (case hO => go_loud (exact Kd.R_of_own0 w HB.out HS.out)); (case hok => go_loud (exact (fun k hk => ⟨hk.1, by simp [Value.ownBlock]; omega⟩))); (case hf => go_loud (exact (fun k hk => by have := HS.out; simp at hk; omega))); (case hB => go_loud (exact (aa_ (Below.refl _ _) _).mono HB.out)); (case hb => go_loud (have := HB.out; simp; omega)); (case hl => go_loud (have := HL.out; simp; omega)); intro v1 w1 ho hb hg hat)
  have ho' : Kd.R k52 52 w1 b (fun k => s ≤ k) v1 l0 := ho; have HO := aM_ ho'; have HB1 : Az (Below w.heap.size w w1) := ⟨Below.grown (aa_ (Below.refl _ _) (.cells #[] 52)) hg (by simp) (fun k hk => by simp [Value.ownBlock] at hk; omega)⟩; clear ho ho' hb hg hat
  go_wp2
  go_ret
  exact ⟨_, rfl, HO.out, HB1.out⟩
theorem cloneL (A0 : Option Addr) (c0 : Nat) (l0 : List S44) (w : World) (s b : Nat) (hr0 : Kd.R k44 44 w b (fun k => s ≤ k) (.slice A0 l0.length c0) l0) (hs : s ≤ w.heap.size) (hb : b ≤ w.heap.size) (hl : l0.length * 104 ≤ 140737488355328) :
  Calls Tryz.prog 83 #[.slice A0 l0.length c0] w fun e w' => ∃ v0_ : Value, e = .returned (v0_) ∧ Kd.R k44 44 w' b (fun k => s ≤ k) v0_ l0 ∧ Below w.heap.size w w' := by
 have q22 : ∀ (w : World) (a : Option Addr) (n c n' c' : Nat), (binOp .eql 26 (.slice a n c) (.slice none n' c')).run Tryz.prog w = .ok (.bool a.isNone) w := fun w a n c n' c' => Lib.run_eql_slice_nil w _ _ a n c n' c' Tryz.underlying26
 have HR := aM_ hr0
 have HL := aM_ hl
 have HB := aM_ hb
 have HS := aM_ hs
 clear hr0 hl hb hs
 cases A0 with
 | none =>
  have h0 : l0 = [] := by
   cases l0 with
   | nil => rfl
   | cons x l =>
    obtain ⟨A1, c1, e1, _, hc1⟩ := Kd.R_reads HR.out; injection e1 with e1; subst e1; obtain ⟨ad, e, _⟩ := hc1.2.2 (by simp)
    cases e
  subst h0
  go_enter Tryz.func83, Tryz.ntmps83
  go_wp2
  go_ret
  exact ⟨_, rfl, Kd.R_nil _ _ _ _ _, Below.refl _ _⟩
 | some ad =>
  have hrr : Az (ReadsRow (Kd.M k44 (w.alloc (.cells #[] 44)) b (fun k => s ≤ k ∧ k < w.heap.size)) (Kd.sz k44) (w.alloc (.cells #[] 44)) (some ad) l0.length l0) := ⟨by
   obtain ⟨A1, c1, e1, _, hc1⟩ := OwnRow.reads HR.out.2; injection e1 with e1; subst e1
   exact hc1.imp_ (aa_ (Below.refl _ _) _) (fun x cs hm => Kd.M_below (Kd.M_mono _ (fun k hk => ⟨hk.1.1, hk.2.2.1⟩) (Kd.M_bound _ hm)) (aa_ (Below.refl _ _) _))⟩
  go_enter Tryz.func83, Tryz.ntmps83
  go_wp2_with (at_builtin; go_loud (refine Kd.R_append_rows k44 (w0 := w) b rfl (.tmp 5) (.tmp 6) 26 44 (.agg #[.string ⟨#[]⟩, .int .i64 0, .int .i64 0, .slice none 0 0, .slice none 0 0, .slice none 0 0]) 104 rfl Tryz.underlying26 (by kernel_rfl) rfl (by show 0 < 6; decide) (by decide) (.slice (some ⟨w.heap.size, 0, none⟩) 0 0) [] l0 (some ad) l0.length c0 (fun k => s ≤ k) (fun k => s ≤ k ∧ k < w.heap.size) rfl rfl ?hO hrr.out (fun _ _ h => h) ?hok ?hf ?hB ?hb ?hl ?_); (case hO => go_loud (exact Kd.R_of_own0 w HB.out HS.out)); (case hok => go_loud (exact (fun k hk => ⟨hk.1, by simp [Value.ownBlock]; omega⟩))); (case hf => go_loud (exact (fun k hk => by have := HS.out; simp at hk; omega))); (case hB => go_loud (exact (aa_ (Below.refl _ _) _).mono HB.out)); (case hb => go_loud (have := HB.out; simp; omega)); (case hl => go_loud (have := HL.out; simp; omega)); intro v1 w1 ho hb hg hat)
  have ho' : Kd.R k44 44 w1 b (fun k => s ≤ k) v1 l0 := ho; have HO := aM_ ho'; have HB1 : Az (Below w.heap.size w w1) := ⟨Below.grown (aa_ (Below.refl _ _) (.cells #[] 44)) hg (by simp) (fun k hk => by simp [Value.ownBlock] at hk; omega)⟩; clear ho ho' hb hg hat
  go_wp2
  go_ret
  exact ⟨_, rfl, HO.out, HB1.out⟩
theorem jr_ (A0 : Option Addr) (c0 : Nat) (l0 : List S56) (w : World) (hr0 : Kd.C k56 w A0 l0.length l0) (hl : l0.length * 72 ≤ 140737488355328) :
  Calls Tryz.prog 102 #[.slice A0 l0.length c0] w fun e w' => ∃ v0_ : Value, e = .returned (v0_) ∧ Kd.N k56 56 w' w.heap.size (fun _ => True) v0_ l0 ∧ Below w.heap.size w w' := by
 have q22 : ∀ (w : World) (a : Option Addr) (n c n' c' : Nat), (binOp .eql 41 (.slice a n c) (.slice none n' c')).run Tryz.prog w = .ok (.bool a.isNone) w := fun w a n c n' c' => Lib.run_eql_slice_nil w _ _ a n c n' c' Tryz.underlying41
 have HR := aM_ hr0
 have HL := aM_ hl
 clear hr0 hl
 cases A0 with
 | none =>
  have h0 : l0 = [] := by
   cases l0 with
   | nil => rfl
   | cons x l => obtain ⟨ad, e, _⟩ := HR.out.2.2 (by simp); cases e
  subst h0
  go_enter Tryz.func102, Tryz.ntmps102
  go_wp2
  go_ret
  exact ⟨_, rfl, Kd.N_nil _ _ _ _ _, Below.refl _ _⟩
 | some ad =>
  have HF := aM_ (Kd.C_F k56_heap HR.out); have HM : Az (Kd.N k56 56 (w.alloc (.cells #[] 56)) w.heap.size (fun _ => True) (.slice (some ⟨w.heap.size, 0, none⟩) 0 0) []) := ⟨Kd.R_N (Kd.R_mono (Kd.R_of_own0 w (Nat.le_refl _) (Nat.le_refl _)) (fun _ _ => trivial))⟩
  go_enter Tryz.func102, Tryz.ntmps102
  go_wp2_with (at_builtin; go_loud (refine Kd.N_append_rows k56 (w0 := w) w.heap.size rfl (.tmp 5) (.tmp 6) 41 56 (.agg #[.int .i64 0, .slice none 0 0, .int .i64 0, .slice none 0 0, .int .i64 0]) 72 rfl Tryz.underlying41 (by kernel_rfl) rfl (by show 0 < 5; decide) (by decide) (.slice (some ⟨w.heap.size, 0, none⟩) 0 0) [] l0 (some ad) l0.length c0 (fun _ => True) (fun k => k < w.heap.size) rfl rfl HM.out (Kd.F_alloc HF.out _) (fun k hk => ⟨trivial, fun e => by simp [Value.ownBlock] at e; omega⟩) (fun _ _ => trivial) (aa_ (Below.refl _ _) _) (by simp) (by have := HL.out; simp; omega) ?_); intro v1 w1 ho hb hg hat)
  have ho' : Kd.N k56 56 w1 w.heap.size (fun _ => True) v1 l0 := ho; have HO := aM_ ho'; have HB := aM_ hb; clear ho ho' hb hg hat
  go_wp2
  go_ret
  exact ⟨_, rfl, HO.out, HB.out⟩
def te_ (l : List S44) (at5 : Int) : Int := if (jb_ l at5).f1 < at5 then (jb_ l at5).f1 else -1
theorem bm_ (l : List S44) (at5 : Int) (h : 0 ≤ at5) : te_ l at5 < at5 := by
 unfold te_
 split
 ·assumption
 omega
theorem iq_ (A : Option Addr) (c : Nat) (l : List S44) (a : Int) (w : World) (hr : Kd.C k44 w A l.length l) (hc : l.length ≤ c) (h0 : 0 ≤ a) (h1 : a < (l.length : Int)) :
  Calls Tryz.prog 60 #[.slice A l.length c, .int .i64 a] w fun e w' => e = .returned (.int .i64 (te_ l a)) ∧ Below w.heap.size w w' :=
 Calls.mono (blob_parent.calls A c l a (te_ l a) w hr hc (by unfold blob_parent.f te_; rw [if_pos h0, if_pos h1]; split <;> rfl)) (by rintro e w' ⟨rfl, hd⟩; exact ⟨rfl, hd.below⟩)
def qe_ (l : List S44) : Nat → Int → List S56 → List S56
 | 0, _, out => out
 | n + 1, at5, out => if kb_ at5 0 ((l.length : Int) - 1) = true then qe_ l n (te_ l at5) ((jb_ l at5).f4 ++ out) else out
def vf_ (l : List S44) (i : Nat) : List S56 := qe_ l (i + 1) i []
theorem lj_ (A : Option Addr) (c : Nat) (l : List S44) (i0 : Nat) (w : World) (hr : Kd.C k44 w A l.length l) (hc : l.length ≤ c) (hi : i0 < l.length) (hl : l.length ≤ 100000) (hL : ∀ x ∈ l, x.f4.length ≤ 1000000) :
  Calls Tryz.prog 48 #[.slice A l.length c, .int .i64 i0] w fun e w' => ∃ v : Value, e = .returned v ∧ Kd.N k56 56 w' w.heap.size (fun _ => True) v (vf_ l i0) ∧ Below w.heap.size w w' := by
 have HR := aM_ hr
 have HC := aM_ hc
 have HLL := aM_ hL
 have hbn : l.length ≤ 9223372036854775807 := by omega
 have HE : Az (vf_ l i0 = qe_ l (i0 + 1) i0 []) := ⟨rfl⟩
 generalize vf_ l i0 = out at *
 have hw1 : wrap64 ((l.length : Int) - 1) = (l.length : Int) - 1 := by rw [wrap64]; omega
 clear hr hc hL
 go_enter Tryz.func48, Tryz.ntmps48
 go_wp2
 go_loopg [1, 5] (i0 + 1) (fun gg s1 s5 wr => ∃ (a : Int) (n : Nat) (ys : List S56), s1 = .int .i64 a ∧ (a + 1).toNat ≤ gg ∧ a < n ∧ Az ((ys.length : Int) + 1000000 * (a + 1) ≤ 1000000 * l.length) ∧ a < l.length ∧ Az (out = qe_ l n a ys) ∧ Az (Kd.N k56 56 wr w.heap.size (fun _ => True) s5 ys) ∧ Az (Below w.heap.size w wr))
 case atStart => exact ⟨i0, i0 + 1, [], rfl, by omega, by omega, ⟨by simp; omega⟩, by omega, HE, ⟨Kd.N_nil _ _ _ _ _⟩, ⟨Below.refl _ _⟩⟩
 clear HE
 obtain ⟨a, n, ys, rfl, hgg, han, HYL, hal, HE, HN, HW⟩ := hrel
 have HWI := aM_ (af_ a 0 ((l.length : Int) - 1))
 cases hin : kb_ a 0 ((l.length : Int) - 1) with
 | false =>
  rw [hin] at HWI
  have HG : Az (out = ys) := ⟨by
   rw [HE.out]
   cases n with
   | zero => rfl
   | succ n => rw [qe_, if_neg (by rw [hin]; decide)]⟩
  clear hin HE
  go_wp2_with fail
  refine (HWI.out _).mono ?_; rintro e w2 ⟨rfl, hB2⟩
  go_wp2
  go_ret
  rw [HG.out]
  exact ⟨_, rfl, Kd.N_below HN.out hB2, ga_ HW.out hB2⟩
 | true =>
  rw [hin] at HWI
  have hr2 : 0 ≤ a ∧ a ≤ (l.length : Int) - 1 := by
   unfold kb_ at hin
   simpa using hin
  obtain ⟨k, rfl⟩ : ∃ k : Nat, a = (k : Int) := ⟨a.toNat, by omega⟩; have hk : k < l.length := by omega
  have hkz : (k : Int) < (l.length : Int) := by omega
  obtain ⟨n, rfl⟩ : ∃ m, n = m + 1 := ⟨n - 1, by omega⟩; have HE1 : Az (out = qe_ l n (te_ l k) ((jb_ l (k : Int)).f4 ++ ys)) := ⟨by rw [HE.out, qe_, if_pos hin]⟩; have HPL := aM_ (bm_ l (k : Int) (by omega)); clear hin HE hr2
  go_wp2_with fail
  refine (HWI.out _).mono ?_; rintro e w2 ⟨rfl, hB2⟩; have HN2 := aM_ (Kd.N_below HN.out hB2); have HW2 : Az (Below w.heap.size w w2) := ⟨ga_ HW.out hB2⟩; clear hB2 HN HW HWI; obtain ⟨ad, A3, c3, A4, c4, A5, c5, hA, h0, h1, h2, h3, h4, h5, l3, g3, l4, g4, l5, g5⟩ := rg_ (Kd.C_below HR.out HW2.out) (k : Int) (by omega) hkz
  have hrl : (jb_ l (k : Int)).f4.length ≤ 1000000 := by
   have hm : jb_ l (k : Int) ∈ l := by
    have : jb_ l (k : Int) = l[k] := by
     show l.getD (k : Int).toNat _ = _; rw [Int.toNat_natCast, List.getD_eq_getElem?_getD, List.getElem?_eq_getElem hk]; rfl
    rw [this]; exact List.getElem_mem hk
   exact HLL.out _ hm
  generalize (jb_ l (k : Int)).f4 = rs at *; rw [Int.toNat_natCast] at h4; have HG4 := aM_ g4; have HPW := aM_ (fun W (hB : Below w.heap.size w W) => iq_ A c l (k : Int) W (Kd.C_below HR.out hB) HC.out (by omega) hkz); have HCL := aM_ (jr_ A4 c4 rs w2 g4 (by omega)); have HRL := aM_ hrl; obtain ⟨A6, c6, hs6⟩ := Kd.N_slice HN2.out; subst hs6; subst hA; clear h0 h1 h2 h3 h5 l3 g3 l4 g4 l5 g5 hrl
  go_wp2_with fail
  refine HCL.out.mono ?_; rintro e w3 ⟨v3, rfl, hN3, hB3⟩; have HN3 := aM_ hN3; have HB3 := aM_ hB3; have HF2 := aM_ (Kd.F_below (Kd.F_bound (Kd.N_F HN2.out)) hB3); obtain ⟨A7, c7, hs7⟩ := Kd.N_slice hN3; subst hs7; have HYL1 : Az (ys.length ≤ 1000000 * 100000 ∧ rs.length ≤ 1000000) := ⟨by have := HYL.out; omega, HRL.out⟩; clear hN3 hB3 HCL h4
  go_wp2_with (at_builtin; go_loud (refine Kd.N_append_rows k56 (w0 := w2) w2.heap.size rfl (.tmp 19) (.tmp 20) 41 56 (.agg #[.int .i64 0, .slice none 0 0, .int .i64 0, .slice none 0 0, .int .i64 0]) 72 rfl Tryz.underlying41 (by kernel_rfl) rfl (by show 0 < 5; decide) (by decide) (.slice A7 rs.length c7) rs ys A6 ys.length c6 (fun _ => True) (fun k => True ∧ k < w2.heap.size) rfl rfl HN3.out HF2.out (fun k hk => ⟨trivial, fun e => by have h2 := hk.2; have h3 := Kd.N_base HN3.out k e.symm; omega⟩) (fun _ _ => trivial) HB3.out HB3.out.size (by have := HYL1.out; omega) ?_); intro v4 w4 ho hb hg hat)
  have HN4 : Az (Kd.N k56 56 w4 w.heap.size (fun _ => True) v4 (rs ++ ys)) := ⟨Kd.N_lower ho HW2.out.size⟩; have HW4 : Az (Below w.heap.size w w4) := ⟨ga_ HW2.out hb⟩; have HYL4 : Az (((rs ++ ys).length : Int) + 1000000 * (te_ l k + 1) ≤ 1000000 * l.length) := ⟨by rw [List.length_append]; have h1 := HYL.out; have h2 := HRL.out; have h3 := HPL.out; omega⟩; clear ho hb hg hat HN3 HB3 HF2 HYL1 HN2 HW2 HYL HRL; generalize rs ++ ys = zs at *
  go_wp2_with fail
  refine (HPW.out _ HW4.out).mono ?_; rintro e w5 ⟨rfl, hB5⟩; have HN5 := aM_ (Kd.N_below HN4.out hB5); have HW5 : Az (Below w.heap.size w w5) := ⟨ga_ HW4.out hB5⟩; have hp := HPL.out; clear hB5 HN4 HW4 HPW HPL; generalize te_ l (k : Int) = q at *
  go_wp2
  go_roundg ((q + 1).toNat)
  case measure => omega
  case rel => exact ⟨q, n, zs, rfl, by omega, by omega, HYL4, by omega, HE1, HN5, HW5⟩
end Go.Proofs.YtiocgaekoeekgaaGreat.P
end
section
namespace Go.Proofs.YtiocgaekoeekgaaGreat.P
open Go.RowKit YtiocgaekoeekgaaGreatW.PrintWords YtiocgaekoeekgaaGreatW.PrintLast YtiocgaekoeekgaaGreatW.PrintMore
attribute [local go_sem] vb_ tb_ fc_ dc_ ob_ nb_ ub_ sb_   
set_option linter.unusedVariables false
set_option linter.unusedSimpArgs false
def okc (c : Int) : Bool := (decide (97 ≤ c) && decide (c ≤ 122)) || ((decide (48 ≤ c) && decide (c ≤ 57)) || decide (c = 45))
def nm_ (s : BA) : Nat → Nat → Bool
 | 0, _ => kb_ s.size 1 12
 | n + 1, i => if okc (bt s i) = true then nm_ s n (i + 1) else false
def idP (s : BA) : Bool := nm_ s s.size 0
theorem okc_true {c : Int} (h : okc c = true) : (97 ≤ c ∧ c ≤ 122) ∨ (48 ≤ c ∧ c ≤ 57) ∨ c = 45 := by
 unfold okc at h
 simpa using h
theorem fv_ {c : Int} (h : ¬ okc c = true) : ¬ ((97 ≤ c ∧ c ≤ 122) ∨ (48 ≤ c ∧ c ≤ 57) ∨ c = 45) := by
 unfold okc at h
 simpa using h
theorem id_some (s : BA) (hs : s.size ≤ 1000000000000) : ∀ n i : Nat, i + n = s.size → blob_id.l0 (n + 1) s (i : Int) = some (nm_ s n i) := by
 intro n
 induction n with
 | zero =>
  intro i hi; rw [blob_id.l0, if_neg (by omega)]; show (blob_within.f _ _ _).bind _ = _; rw [ah_]
  rfl
 | succ n ih =>
  intro i hi; have h1 : (i : Int) < (s.size : Int) := by omega
  have h2 : (0 : Int) ≤ (i : Int) := by omega
  have hw : wrap64 ((i : Int) + 1) = ((i + 1 : Nat) : Int) := by rw [wrap64]; omega
  have hr := ih (i + 1) (by omega); rw [blob_id.l0, if_pos h1, if_pos h2, hw, hr, nm_]; generalize nm_ s n (i + 1) = X; generalize bt s (i : Int) = c
  by_cases ho : okc c = true
  ·rw [if_pos ho]
   have := okc_true ho
   repeat' split
   all_goals first | rfl | (exfalso; omega)
  rw [if_neg ho]; have := fv_ ho
  repeat' split
  all_goals first | rfl | (exfalso; omega)
theorem id_w (s : BA) (w : World) (hs : s.size ≤ 1000000000000) : Calls Tryz.prog 41 #[.string s] w fun e w' => e = .returned (.bool (idP s)) ∧ Below w.heap.size w w' :=
 Calls.mono (blob_id.calls (s.size + 1) s _ w (id_some s hs s.size 0 (by omega))) (by rintro e w' ⟨rfl, hd⟩; exact ⟨rfl, hd.below⟩)
end Go.Proofs.YtiocgaekoeekgaaGreat.P
end
section
namespace Go.Proofs.YtiocgaekoeekgaaGreat.P
open Go.RowKit YtiocgaekoeekgaaGreatW.PrintWords YtiocgaekoeekgaaGreatW.PrintLast YtiocgaekoeekgaaGreatW.PrintMore
attribute [local go_sem] vb_ tb_ fc_ dc_ ob_ nb_ ub_ sb_   
set_option linter.unusedVariables false
set_option linter.unusedSimpArgs false
attribute [local go_sem] Oper.semAt_some
noncomputable def kf_ (l : List S44) (i : Nat) (x : S44) : Bool :=
 idP x.f0 && (!((l.take i).any fun y => y.f0.toList == x.f0.toList) && (kb_ x.f1 (-1) ((i : Int) - 1) && (kb_ x.f2 0 3 && (!decide (30 < x.f3.length) && (!decide (20 < x.f5.length) && (x.f3.all cd_ && (x.f5.all le_ && (!decide (60 < x.f4.length) && zc_ (vf_ l i)))))))))
noncomputable def se_ (l : List S44) : Nat → Nat → Bool
 | 0, _ => true
 | n + 1, i => if kf_ l i (jb_ l (i : Int)) = true then se_ l n (i + 1) else false
noncomputable def ie_ (l : List S44) : Bool := if 10 < l.length then false else se_ l l.length 0
def ap_ (l : List S44) : Prop := ∀ x ∈ l, x.f0.size ≤ 1000000000000 ∧ x.f4.length ≤ 1000000
theorem sh_ (A : Option Addr) (c : Nat) (l : List S44) (w : World) (hr : Kd.C k44 w A l.length l) (hc : l.length ≤ c) (hok : ap_ l) :
  Calls Tryz.prog 16 #[.slice A l.length c] w fun e w' => e = .returned (.bool (ie_ l)) ∧ Below w.heap.size w w' := by
 have hmf : ∀ (fn : Fn) (first cap : Array Value) (w : World), (Instr.makeFunc fn first cap).run Tryz.prog w = .ok (.func fn first cap) w := fun _ _ _ _ => rfl
 have HR := aM_ hr
 have HC := aM_ hc
 have HOK := aM_ hok
 have hbn : l.length ≤ 9223372036854775807 := hr.2.1
 by_cases hbig : 10 < l.length
 ·have HE : Az (ie_ l = false) := ⟨if_pos hbig⟩
  have hbz : decide ((10 : Int) < (l.length : Int)) = true := decide_eq_true (by omega); have hbz' : decide (10 < l.length) = true := decide_eq_true hbig; clear hr hc hok hbig
  go_enter Tryz.func16, Tryz.ntmps16
  go_wp2
  go_ret
  rw [HE.out]; exact ⟨rfl, Below.refl _ _⟩
 have HE : Az (ie_ l = se_ l (l.length - 0) 0) := ⟨if_neg hbig⟩
 have hlt : l.length ≤ 10 := by omega
 have hbz : decide ((10 : Int) < (l.length : Int)) = false := decide_eq_false (by omega)
 have hbz' : decide (10 < l.length) = false := decide_eq_false hbig
 generalize ie_ l = r at *
 clear hr hc hok hbig
 go_enter Tryz.func16, Tryz.ntmps16
 go_wp2
 go_loopg [11] l.length (fun gg s11 wr => ∃ i : Nat, i ≤ l.length ∧ l.length - i ≤ gg ∧ s11 = .int .i64 i ∧ Az (r = se_ l (l.length - i) i) ∧ Az (Below w.heap.size w wr))
 case atStart => exact ⟨0, by omega, by omega, rfl, HE, ⟨Below.refl _ _⟩⟩
 clear HE
 obtain ⟨i, hi, hgg, rfl, HE, HW⟩ := hrel
 by_cases hil : i < l.length
 ·have hilz : (i : Int) < (l.length : Int) := by omega
  obtain ⟨ad, A3, c3, A4, c4, A5, c5, hA, h0, h1, h2, h3, h4, h5, l3, g3, l4, g4, l5, g5⟩ := rg_ HR.out (i : Int) (by omega) hilz; have HA : Az (A = some ad) := ⟨hA⟩
  have hy : jb_ l (i : Int) = l[i] := by
   show l.getD (i : Int).toNat _ = _; rw [Int.toNat_natCast, List.getD_eq_getElem?_getD, List.getElem?_eq_getElem hil]; rfl
  have HOX : Az ((jb_ l (i : Int)).f0.size ≤ 1000000000000 ∧ (jb_ l (i : Int)).f4.length ≤ 1000000) := ⟨by rw [hy]; exact HOK.out _ (List.getElem_mem hil)⟩; have HE1 : Az (r = if kf_ l i (jb_ l (i : Int)) = true then se_ l (l.length - (i + 1)) (i + 1) else false) := ⟨by rw [HE.out, show l.length - i = (l.length - (i + 1)) + 1 from by omega, se_]⟩; clear hy HE; generalize jb_ l (i : Int) = x at *; rw [Int.toNat_natCast] at h0 h1 h2 h3 h4 h5; replace h0 := ha_ HW.out h0; replace h1 := ha_ HW.out h1; replace h2 := ha_ HW.out h2; replace h3 := ha_ HW.out h3; replace h4 := ha_ HW.out h4; replace h5 := ha_ HW.out h5; have G3 := aM_ g3; have L3 := aM_ l3; have G5 := aM_ g5; have L5 := aM_ l5; clear l3 g3 l4 g4 l5 g5; obtain ⟨b1, hb1⟩ : ∃ b, idP x.f0 = b := ⟨_, rfl⟩; obtain ⟨b2, hb2⟩ : ∃ b, ((l.take i).any fun y => y.f0.toList == x.f0.toList) = b := ⟨_, rfl⟩; obtain ⟨b3, hb3⟩ : ∃ b, kb_ x.f1 (-1) ((i : Int) - 1) = b := ⟨_, rfl⟩; obtain ⟨b4, hb4⟩ : ∃ b, kb_ x.f2 0 3 = b := ⟨_, rfl⟩; obtain ⟨b5, hb5⟩ : ∃ b, decide (30 < x.f3.length) = b := ⟨_, rfl⟩; obtain ⟨b6, hb6⟩ : ∃ b, decide (20 < x.f5.length) = b := ⟨_, rfl⟩; obtain ⟨b7, hb7⟩ : ∃ b, x.f3.all cd_ = b := ⟨_, rfl⟩; obtain ⟨b8, hb8⟩ : ∃ b, x.f5.all le_ = b := ⟨_, rfl⟩; obtain ⟨b9, hb9⟩ : ∃ b, decide (60 < x.f4.length) = b := ⟨_, rfl⟩; have hb5' : decide ((30 : Int) < (x.f3.length : Int)) = b5 := by rw [← hb5]; congr 1; simp; omega
  have hb6' : decide ((20 : Int) < (x.f5.length : Int)) = b6 := by rw [← hb6]; congr 1; simp; omega
  have hb9' : decide ((60 : Int) < (x.f4.length : Int)) = b9 := by rw [← hb9]; congr 1; simp; omega
  obtain ⟨RS, hRS⟩ : ∃ RS, vf_ l i = RS := ⟨_, rfl⟩; obtain ⟨b10, hb10⟩ : ∃ b, zc_ RS = b := ⟨_, rfl⟩; have HB : Az (kf_ l i x = (b1 && (!b2 && (b3 && (b4 && (!b5 && (!b6 && (b7 && (b8 && (!b9 && b10)))))))))) := ⟨by rw [← hb1, ← hb2, ← hb3, ← hb4, ← hb5, ← hb6, ← hb7, ← hb8, ← hb9, ← hb10, ← hRS]; rfl⟩; have HK0 : Az ((wr.alloc (.cells #[.string x.f0, .int .i64 x.f1, .int .i64 x.f2, .slice A3 x.f3.length c3, .slice A4 x.f4.length c4, .slice A5 x.f5.length c5] 44)).heap[wr.heap.size]? = some (.cells #[.string x.f0, .int .i64 x.f1, .int .i64 x.f2, .slice A3 x.f3.length c3, .slice A4 x.f4.length c4, .slice A5 x.f5.length c5] 44 (0, 0))) := ⟨ra_ wr _⟩; have HB0 : Az (Below w.heap.size w (wr.alloc (.cells #[.string x.f0, .int .i64 x.f1, .int .i64 x.f2, .slice A3 x.f3.length c3, .slice A4 x.f4.length c4, .slice A5 x.f5.length c5] 44))) := ⟨ga_ HW.out (aa_ (Below.refl _ _) _)⟩; obtain ⟨i0, hinf, hz0, hz1, hz2⟩ := info_parts info44; have hcut := cut_to (P := Tryz.prog) 26 44 .i64 Tryz.underlying26 hinf A l.length c (i : Int) (by omega) (by omega) HC.out; rw [Int.toNat_natCast] at hcut; clear hinf hz0 hz1 hz2; have hwi : wrap64 ((i : Int) - 1) = (i : Int) - 1 := by rw [wrap64]; omega
  have H1 : Az (∀ W, Calls Tryz.prog 41 #[.string x.f0] W fun e w' => e = .returned (.bool b1) ∧ Below W.heap.size W w') := ⟨by rw [← hb1]; exact fun W => id_w x.f0 W HOX.out.1⟩
  have H2 : Az (Calls Tryz.prog 39 #[.slice A i c, .func (.func 40) #[] #[.pointer (some ⟨wr.heap.size, 0, none⟩)]] (wr.alloc (.cells #[.string x.f0, .int .i64 x.f1, .int .i64 x.f2, .slice A3 x.f3.length c3, .slice A4 x.f4.length c4, .slice A5 x.f5.length c5] 44)) fun e w' => e = .returned (.bool b2) ∧ Below (wr.alloc (.cells #[.string x.f0, .int .i64 x.f1, .int .i64 x.f2, .slice A3 x.f3.length c3, .slice A4 x.f4.length c4, .slice A5 x.f5.length c5] 44)).heap.size (wr.alloc (.cells #[.string x.f0, .int .i64 x.f1, .int .i64 x.f2, .slice A3 x.f3.length c3, .slice A4 x.f4.length c4, .slice A5 x.f5.length c5] 44)) w') := ⟨by
   have hti : (l.take i).length = i := by rw [List.length_take]; omega
   have hcf := pk_ _ A c (l.take i) _ _ (Kd.C_take (Kd.C_below HR.out HB0.out) (by omega)) (by rw [hti]; have := HC.out; omega) (po_ wr.heap.size x.f0 _ (ba_ HK0.out 0)); rw [hb2, hti] at hcf
   exact hcf⟩
  have H3 : Az (∀ W, Calls Tryz.prog 42 #[.int .i64 x.f1, .int .i64 (-1), .int .i64 ((i : Int) - 1)] W fun e w' => e = .returned (.bool b3) ∧ Below W.heap.size W w') := ⟨by rw [← hb3]; exact af_ _ _ _⟩; have H4 : Az (∀ W, Calls Tryz.prog 42 #[.int .i64 x.f2, .int .i64 0, .int .i64 3] W fun e w' => e = .returned (.bool b4) ∧ Below W.heap.size W w') := ⟨by rw [← hb4]; exact af_ _ _ _⟩; have H7 : Az (∀ W, Below w.heap.size w W → Calls Tryz.prog 43 #[.slice A3 x.f3.length c3, .func (.func 44) #[] #[]] W fun e w' => e = .returned (.bool b7) ∧ Below W.heap.size W w') := ⟨by rw [← hb7]; exact fun W hB => ft_ A3 c3 x.f3 W (Kd.C_below G3.out hB) L3.out⟩; have H8 : Az (∀ W, Below w.heap.size w W → Calls Tryz.prog 45 #[.slice A5 x.f5.length c5, .func (.func 46) #[] #[]] W fun e w' => e = .returned (.bool b8) ∧ Below W.heap.size W w') := ⟨by rw [← hb8]; exact fun W hB => dt_ A5 c5 x.f5 W (Kd.C_below G5.out hB) L5.out⟩; have H9 : Az (∀ W, Below w.heap.size w W → Calls Tryz.prog 48 #[.slice A l.length c, .int .i64 i] W fun e w' => ∃ v : Value, e = .returned v ∧ Kd.N k56 56 w' W.heap.size (fun _ => True) v RS ∧ Below W.heap.size W w') := ⟨by rw [← hRS]; exact fun W hB => lj_ A c l i W (Kd.C_below HR.out hB) HC.out hil (by omega) (fun x hx => (HOK.out x hx).2)⟩; have HB10 := aM_ hb10; clear hb1 hb2 hb3 hb4 hb7 hb8 hb10 hRS HOX; obtain ⟨okv, hokv⟩ : ∃ okv, kf_ l i x = okv := ⟨_, rfl⟩; rw [hokv] at HB HE1; clear hokv; subst hA
  have hcase : (b1 = false ∧ okv = false) ∨ (b1 = true ∧ b2 = true ∧ okv = false) ∨ (b1 = true ∧ b2 = false ∧ b3 = false ∧ okv = false) ∨ (b1 = true ∧ b2 = false ∧ b3 = true ∧ b4 = false ∧ okv = false) ∨ (b1 = true ∧ b2 = false ∧ b3 = true ∧ b4 = true ∧ b5 = true ∧ okv = false) ∨ (b1 = true ∧ b2 = false ∧ b3 = true ∧ b4 = true ∧ b5 = false ∧ b6 = true ∧ okv = false) ∨ (b1 = true ∧ b2 = false ∧ b3 = true ∧ b4 = true ∧ b5 = false ∧ b6 = false ∧ b7 = false ∧ okv = false) ∨ (b1 = true ∧ b2 = false ∧ b3 = true ∧ b4 = true ∧ b5 = false ∧ b6 = false ∧ b7 = true ∧ b8 = false ∧ okv = false) ∨ (b1 = true ∧ b2 = false ∧ b3 = true ∧ b4 = true ∧ b5 = false ∧ b6 = false ∧ b7 = true ∧ b8 = true ∧ b9 = true ∧ okv = false) ∨ (b1 = true ∧ b2 = false ∧ b3 = true ∧ b4 = true ∧ b5 = false ∧ b6 = false ∧ b7 = true ∧ b8 = true ∧ b9 = false ∧ b10 = false ∧ okv = false) ∨ (b1 = true ∧ b2 = false ∧ b3 = true ∧ b4 = true ∧ b5 = false ∧ b6 = false ∧ b7 = true ∧ b8 = true ∧ b9 = false ∧ b10 = true ∧ okv = true) := by
   have h := HB.out; clear HB10 hb5 hb6 hb9 hb5' hb6' hb9' H1 H2 H3 H4 H7 H8 H9 HE1; subst h
   cases b1 <;> cases b2 <;> cases b3 <;> cases b4 <;> try (simp; done)
   all_goals (cases b5 <;> cases b6 <;> cases b7 <;> cases b8 <;> cases b9 <;> cases b10 <;> simp)
  clear HB
  rcases hcase with ⟨rfl, rfl⟩ | ⟨rfl, rfl, rfl⟩ | ⟨rfl, rfl, rfl, rfl⟩ | ⟨rfl, rfl, rfl, rfl, rfl⟩ | ⟨rfl, rfl, rfl, rfl, rfl, rfl⟩ | ⟨rfl, rfl, rfl, rfl, rfl, rfl, rfl⟩ | ⟨rfl, rfl, rfl, rfl, rfl, rfl, rfl, rfl⟩ | ⟨rfl, rfl, rfl, rfl, rfl, rfl, rfl, rfl, rfl⟩ | ⟨rfl, rfl, rfl, rfl, rfl, rfl, rfl, rfl, rfl, rfl⟩ | ⟨rfl, rfl, rfl, rfl, rfl, rfl, rfl, rfl, rfl, rfl, rfl⟩ | ⟨rfl, rfl, rfl, rfl, rfl, rfl, rfl, rfl, rfl, rfl, rfl⟩
  all_goals
   first | (have HG : Az (r = false) := ⟨HE1.out⟩) | (have HG : Az (r = se_ l (l.length - (i + 1)) (i + 1)) := ⟨HE1.out⟩)
   clear HE1
   go_wp2_with fail
   generalize wr.alloc (.cells #[.string x.f0, .int .i64 x.f1, .int .i64 x.f2, .slice A3 x.f3.length c3, .slice A4 x.f4.length c4, .slice A5 x.f5.length c5] 44) = W0 at *; generalize wr.heap.size = g at *; clear h0 h1 h2 h3 h4 h5; refine H2.out.mono ?_; rintro e w1 ⟨rfl, hB⟩; have HK1 := aM_ (oa_ HK0.out hB); have HB1 : Az (Below w.heap.size w w1) := ⟨ga_ HB0.out hB⟩; have hc1_0 : w1.cell? ⟨g, 0, none⟩ = some (.string x.f0) := (ba_ HK1.out 0).trans rfl; have hc1_1 : w1.cell? ⟨g, 1, none⟩ = some (.int .i64 x.f1) := (ba_ HK1.out 1).trans rfl; have hc1_2 : w1.cell? ⟨g, 2, none⟩ = some (.int .i64 x.f2) := (ba_ HK1.out 2).trans rfl; have hc1_3 : w1.cell? ⟨g, 3, none⟩ = some (.slice A3 x.f3.length c3) := (ba_ HK1.out 3).trans rfl; have hc1_4 : w1.cell? ⟨g, 4, none⟩ = some (.slice A4 x.f4.length c4) := (ba_ HK1.out 4).trans rfl; have hc1_5 : w1.cell? ⟨g, 5, none⟩ = some (.slice A5 x.f5.length c5) := (ba_ HK1.out 5).trans rfl; clear hB H2
   go_wp2_with (first | (go_at_call 41; with_reducible refine (H1.out _).mono ?_; rintro e w2 ⟨rfl, hB⟩; have HK2 := aM_ (oa_ HK1.out hB); have HB2 : Az (Below w.heap.size w w2) := ⟨ga_ HB1.out hB⟩; clear hB; clear hc1_0; clear hc1_1; clear hc1_2; clear hc1_3; clear hc1_4; clear hc1_5; have hc2_0 : w2.cell? ⟨g, 0, none⟩ = some (.string x.f0) := (ba_ HK2.out 0).trans rfl; have hc2_1 : w2.cell? ⟨g, 1, none⟩ = some (.int .i64 x.f1) := (ba_ HK2.out 1).trans rfl; have hc2_2 : w2.cell? ⟨g, 2, none⟩ = some (.int .i64 x.f2) := (ba_ HK2.out 2).trans rfl; have hc2_3 : w2.cell? ⟨g, 3, none⟩ = some (.slice A3 x.f3.length c3) := (ba_ HK2.out 3).trans rfl; have hc2_4 : w2.cell? ⟨g, 4, none⟩ = some (.slice A4 x.f4.length c4) := (ba_ HK2.out 4).trans rfl; have hc2_5 : w2.cell? ⟨g, 5, none⟩ = some (.slice A5 x.f5.length c5) := (ba_ HK2.out 5).trans rfl) | (go_at_call 42; with_reducible refine (H3.out _).mono ?_; rintro e w3 ⟨rfl, hB⟩; have HK3 := aM_ (oa_ HK2.out hB); have HB3 : Az (Below w.heap.size w w3) := ⟨ga_ HB2.out hB⟩; clear hB; clear hc2_0; clear hc2_1; clear hc2_2; clear hc2_3; clear hc2_4; clear hc2_5; have hc3_0 : w3.cell? ⟨g, 0, none⟩ = some (.string x.f0) := (ba_ HK3.out 0).trans rfl; have hc3_1 : w3.cell? ⟨g, 1, none⟩ = some (.int .i64 x.f1) := (ba_ HK3.out 1).trans rfl; have hc3_2 : w3.cell? ⟨g, 2, none⟩ = some (.int .i64 x.f2) := (ba_ HK3.out 2).trans rfl; have hc3_3 : w3.cell? ⟨g, 3, none⟩ = some (.slice A3 x.f3.length c3) := (ba_ HK3.out 3).trans rfl; have hc3_4 : w3.cell? ⟨g, 4, none⟩ = some (.slice A4 x.f4.length c4) := (ba_ HK3.out 4).trans rfl; have hc3_5 : w3.cell? ⟨g, 5, none⟩ = some (.slice A5 x.f5.length c5) := (ba_ HK3.out 5).trans rfl) | (go_at_call 42; with_reducible refine (H4.out _).mono ?_; rintro e w4 ⟨rfl, hB⟩; have HK4 := aM_ (oa_ HK3.out hB); have HB4 : Az (Below w.heap.size w w4) := ⟨ga_ HB3.out hB⟩; clear hB; clear hc3_0; clear hc3_1; clear hc3_2; clear hc3_3; clear hc3_4; clear hc3_5; have hc4_0 : w4.cell? ⟨g, 0, none⟩ = some (.string x.f0) := (ba_ HK4.out 0).trans rfl; have hc4_1 : w4.cell? ⟨g, 1, none⟩ = some (.int .i64 x.f1) := (ba_ HK4.out 1).trans rfl; have hc4_2 : w4.cell? ⟨g, 2, none⟩ = some (.int .i64 x.f2) := (ba_ HK4.out 2).trans rfl; have hc4_3 : w4.cell? ⟨g, 3, none⟩ = some (.slice A3 x.f3.length c3) := (ba_ HK4.out 3).trans rfl; have hc4_4 : w4.cell? ⟨g, 4, none⟩ = some (.slice A4 x.f4.length c4) := (ba_ HK4.out 4).trans rfl; have hc4_5 : w4.cell? ⟨g, 5, none⟩ = some (.slice A5 x.f5.length c5) := (ba_ HK4.out 5).trans rfl) | (go_at_call 43; with_reducible refine (H7.out _ HB4.out).mono ?_; rintro e w5 ⟨rfl, hB⟩; have HK5 := aM_ (oa_ HK4.out hB); have HB5 : Az (Below w.heap.size w w5) := ⟨ga_ HB4.out hB⟩; clear hB; clear hc4_0; clear hc4_1; clear hc4_2; clear hc4_3; clear hc4_4; clear hc4_5; have hc5_0 : w5.cell? ⟨g, 0, none⟩ = some (.string x.f0) := (ba_ HK5.out 0).trans rfl; have hc5_1 : w5.cell? ⟨g, 1, none⟩ = some (.int .i64 x.f1) := (ba_ HK5.out 1).trans rfl; have hc5_2 : w5.cell? ⟨g, 2, none⟩ = some (.int .i64 x.f2) := (ba_ HK5.out 2).trans rfl; have hc5_3 : w5.cell? ⟨g, 3, none⟩ = some (.slice A3 x.f3.length c3) := (ba_ HK5.out 3).trans rfl; have hc5_4 : w5.cell? ⟨g, 4, none⟩ = some (.slice A4 x.f4.length c4) := (ba_ HK5.out 4).trans rfl; have hc5_5 : w5.cell? ⟨g, 5, none⟩ = some (.slice A5 x.f5.length c5) := (ba_ HK5.out 5).trans rfl) | (go_at_call 45; with_reducible refine (H8.out _ HB5.out).mono ?_; rintro e w6 ⟨rfl, hB⟩; have HK6 := aM_ (oa_ HK5.out hB); have HB6 : Az (Below w.heap.size w w6) := ⟨ga_ HB5.out hB⟩; clear hB; clear hc5_0; clear hc5_1; clear hc5_2; clear hc5_3; clear hc5_4; clear hc5_5; have hc6_0 : w6.cell? ⟨g, 0, none⟩ = some (.string x.f0) := (ba_ HK6.out 0).trans rfl; have hc6_1 : w6.cell? ⟨g, 1, none⟩ = some (.int .i64 x.f1) := (ba_ HK6.out 1).trans rfl; have hc6_2 : w6.cell? ⟨g, 2, none⟩ = some (.int .i64 x.f2) := (ba_ HK6.out 2).trans rfl; have hc6_3 : w6.cell? ⟨g, 3, none⟩ = some (.slice A3 x.f3.length c3) := (ba_ HK6.out 3).trans rfl; have hc6_4 : w6.cell? ⟨g, 4, none⟩ = some (.slice A4 x.f4.length c4) := (ba_ HK6.out 4).trans rfl; have hc6_5 : w6.cell? ⟨g, 5, none⟩ = some (.slice A5 x.f5.length c5) := (ba_ HK6.out 5).trans rfl) | (go_at_call 48; with_reducible refine (H9.out _ HB6.out).mono ?_; rintro e w7 ⟨v7, rfl, hN7, hB⟩; have HK7 := aM_ (oa_ HK6.out hB); have HB7 : Az (Below w.heap.size w w7) := ⟨ga_ HB6.out hB⟩; obtain ⟨A7, c7, hs7⟩ := Kd.N_slice hN7; subst hs7; have hcw := it_ A7 c7 RS w7 (Kd.N_reads' hN7).2.2 (Kd.N_reads' hN7).2.1; rw [HB10.out] at hcw; have HC7 := aM_ hcw; clear hB hN7 hcw; clear hc6_0; clear hc6_1; clear hc6_2; clear hc6_3; clear hc6_4; clear hc6_5) | (go_at_call 47; with_reducible refine (HC7.out).mono ?_; rintro e w8 ⟨rfl, hB⟩; have HK8 := aM_ (oa_ HK7.out hB); have HB8 : Az (Below w.heap.size w w8) := ⟨ga_ HB7.out hB⟩; clear hB))
   first
    | (go_ret; rw [HG.out]; first | exact ⟨rfl, HB8.out⟩ | exact ⟨rfl, HB7.out⟩ | exact ⟨rfl, HB6.out⟩ | exact ⟨rfl, HB5.out⟩ | exact ⟨rfl, HB4.out⟩ | exact ⟨rfl, HB3.out⟩ | exact ⟨rfl, HB2.out⟩ | exact ⟨rfl, HB1.out⟩)
    | skip
  go_roundg (l.length - (i + 1))
  case measure => omega
  case rel => exact ⟨i + 1, by omega, by omega, by go_num, HG, HB8⟩
 have he : i = l.length := by omega
 have hilz : decide ((i : Int) < (l.length : Int)) = false := by simp; omega
 have HG : Az (r = true) := ⟨by rw [HE.out, he, Nat.sub_self]; rfl⟩
 clear he
 go_wp2
 go_ret
 rw [HG.out]
 exact ⟨rfl, HW.out⟩
theorem Kd.R_of_room {α : Type} {d : Kd α} {e b : Nat} {ok : Nat → Prop} (w w0 : World) (hw : w0.heap.size = w.heap.size) (hb : b ≤ w.heap.size) (hok : ok w.heap.size) (cs : Array Value) (cap : Nat) (hcs : cs.size = cap * d.sz) (hcap : cap ≤ maxLen) : d.R e (w0.alloc (.cells cs e)) b ok (.slice (some ⟨w.heap.size, 0, none⟩) 0 cap) [] := by
 rw [← hw] at *
 exact ⟨fun k hk => by
  have : k = w0.heap.size := by simpa [Value.ownBlock] using hk.symm
  rw [this]; exact hok, [], ⟨by simp, .inr ⟨w0.heap.size, cap, cs, rfl, hb, ra_ w0 _, Nat.zero_le _, hcap, hcs, by simp⟩⟩, Reps.none _ _⟩
theorem Kd.S_of_none {α : Type} {d : Kd α} {e b : Nat} {ok : Nat → Prop} {w : World} {v : Value} (h : d.R e w b ok v []) : Kd.S d e w b ok v [] := by
 obtain ⟨h0, inner, ho, hr⟩ := h
 exact ⟨fun _ => 0, h0, inner, ho, hr.1, fun j p hj => by simp at hj⟩
theorem zs_ (n : Nat) (w : World) (hn : n ≤ 1000000) :
  Calls Tryz.prog 113 #[.slice none 0 0, .int .i64 n] w fun e w' => ∃ v, e = .returned v ∧ Kd.R k46 46 w' w.heap.size (fun k => w.heap.size ≤ k) v [] ∧ Below w.heap.size w w' := by
 have hHn := aM_ hn
 have hneg : decide ((n : Int) < 0) = false := decide_eq_false (by omega)
 have hw0 : wrap64 ((0 : Int) - 0) = 0 := by unfold wrap64; omega
 have hw1 : wrap64 ((n : Int) - 0) = (n : Int) := by rw [wrap64]; omega
 have hw2 : wrap64 (n : Int) = (n : Int) := by rw [wrap64]; omega
 by_cases h0 : n = 0
 ·subst h0
  clear hn
  go_enter Tryz.func113, Tryz.ntmps113
  go_wp2
  go_ret
  exact ⟨_, rfl, Kd.R_nil _ _ _ _ _, Below.refl _ _⟩
 have hpos : 0 < n := by omega
 have hpz : decide ((0 : Int) < (n : Int)) = true := decide_eq_true (by omega)
 have hpz' : decide (0 < n) = true := decide_eq_true hpos
 obtain ⟨i0, hi, hz0, hz1, hz2⟩ := info_parts info46
 have hrun := Lib.run_append_nil_zeros (P := Tryz.prog) w 40 3 40 46 i0 (.agg #[.string ⟨#[]⟩, .int .i64 0, .int .i64 0]) .i64 .i64 Tryz.underlying40 Tryz.underlying3 hi hz0 n hpos (by rw [hz1]; decide) (by omega) (by rw [hz2]; omega)
 have hge := grownCap_ge w n 0 46
 have hml := grownCap_le_maxLen w n 0 46 (by unfold maxLen; omega)
 have HSZ : Az ((Builtin.zeroCells (.agg #[.string ⟨#[]⟩, .int .i64 0, .int .i64 0] : Value).cells n ++ Builtin.zeroCells (.agg #[.string ⟨#[]⟩, .int .i64 0, .int .i64 0] : Value).cells (grownCap w n 0 46 - n)).size = grownCap w n 0 46 * (Kd.sz k46)) := ⟨by
  show _ = grownCap w n 0 46 * 3; simp only [Array.size_append, size_zeroCells]; show n * 3 + (grownCap w n 0 46 - n) * 3 = _; rw [← Nat.add_mul]
  congr 1
  omega⟩
 generalize Builtin.zeroCells (.agg #[.string ⟨#[]⟩, .int .i64 0, .int .i64 0] : Value).cells n ++ Builtin.zeroCells (.agg #[.string ⟨#[]⟩, .int .i64 0, .int .i64 0] : Value).cells (grownCap w n 0 46 - n) = cs at *
 generalize grownCap w n 0 46 = cap at *
 have HRUN := aM_ hrun
 have HML := aM_ hml
 have hcap : (0 : Int) ≤ (cap : Int) := by omega
 clear hrun hml hi hz0 hz1 hz2 hge hn h0
 go_enter Tryz.func113, Tryz.ntmps113
 go_wp2_with (at_builtin; go_loud (refine Lib.wpList_append_run _ rfl (.tmp 20) (.tmp 21) 40 3 rfl (.slice none 0 0) (.int .i64 (n : Int)) rfl (congrArg (Value.int .i64) hw2) _ _ HRUN.out ?_))
 go_ret
 exact ⟨_, rfl, Kd.R_of_room w w.drew rfl (Nat.le_refl _) (Nat.le_refl _) cs cap HSZ.out HML.out, aa_ (fa_ (Below.refl _ _)) _⟩
theorem ys_ (n : Nat) (w : World) (hn : n ≤ 1000000) :
  Calls Tryz.prog 114 #[.slice none 0 0, .int .i64 n] w fun e w' => ∃ v, e = .returned v ∧ Kd.R k52 52 w' w.heap.size (fun k => w.heap.size ≤ k) v [] ∧ Below w.heap.size w w' := by
 have hHn := aM_ hn
 have hneg : decide ((n : Int) < 0) = false := decide_eq_false (by omega)
 have hw0 : wrap64 ((0 : Int) - 0) = 0 := by unfold wrap64; omega
 have hw1 : wrap64 ((n : Int) - 0) = (n : Int) := by rw [wrap64]; omega
 have hw2 : wrap64 (n : Int) = (n : Int) := by rw [wrap64]; omega
 by_cases h0 : n = 0
 ·subst h0
  clear hn
  go_enter Tryz.func114, Tryz.ntmps114
  go_wp2
  go_ret
  exact ⟨_, rfl, Kd.R_nil _ _ _ _ _, Below.refl _ _⟩
 have hpos : 0 < n := by omega
 have hpz : decide ((0 : Int) < (n : Int)) = true := decide_eq_true (by omega)
 have hpz' : decide (0 < n) = true := decide_eq_true hpos
 obtain ⟨i0, hi, hz0, hz1, hz2⟩ := info_parts info52
 have hrun := Lib.run_append_nil_zeros (P := Tryz.prog) w 42 3 42 52 i0 (.agg #[.int .i64 0, .slice none 0 0]) .i64 .i64 Tryz.underlying42 Tryz.underlying3 hi hz0 n hpos (by rw [hz1]; decide) (by omega) (by rw [hz2]; omega)
 have hge := grownCap_ge w n 0 52
 have hml := grownCap_le_maxLen w n 0 52 (by unfold maxLen; omega)
 have HSZ : Az ((Builtin.zeroCells (.agg #[.int .i64 0, .slice none 0 0] : Value).cells n ++ Builtin.zeroCells (.agg #[.int .i64 0, .slice none 0 0] : Value).cells (grownCap w n 0 52 - n)).size = grownCap w n 0 52 * (Kd.sz k52)) := ⟨by
  show _ = grownCap w n 0 52 * 2; simp only [Array.size_append, size_zeroCells]; show n * 2 + (grownCap w n 0 52 - n) * 2 = _; rw [← Nat.add_mul]
  congr 1
  omega⟩
 generalize Builtin.zeroCells (.agg #[.int .i64 0, .slice none 0 0] : Value).cells n ++ Builtin.zeroCells (.agg #[.int .i64 0, .slice none 0 0] : Value).cells (grownCap w n 0 52 - n) = cs at *
 generalize grownCap w n 0 52 = cap at *
 have HRUN := aM_ hrun
 have HML := aM_ hml
 have hcap : (0 : Int) ≤ (cap : Int) := by omega
 clear hrun hml hi hz0 hz1 hz2 hge hn h0
 go_enter Tryz.func114, Tryz.ntmps114
 go_wp2_with (at_builtin; go_loud (refine Lib.wpList_append_run _ rfl (.tmp 20) (.tmp 21) 42 3 rfl (.slice none 0 0) (.int .i64 (n : Int)) rfl (congrArg (Value.int .i64) hw2) _ _ HRUN.out ?_))
 go_ret
 exact ⟨_, rfl, Kd.R_of_room w w.drew rfl (Nat.le_refl _) (Nat.le_refl _) cs cap HSZ.out HML.out, aa_ (fa_ (Below.refl _ _)) _⟩
theorem jp_ (g : Nat) (A1 A2 : Option Addr) (c1 c2 : Nat) (l1 l2 : List S46) (w : World) (hg0 : w.cell? ⟨g, 0, none⟩ = some (.slice A1 l1.length c1)) (hg1 : w.cell? ⟨g, 1, none⟩ = some (.slice A2 l2.length c2)) (h1 : Kd.C k46 w A1 l1.length l1) (h2 : Kd.C k46 w A2 l2.length l2) (hn : l1.length + l2.length ≤ 1000000) :
  Calls Tryz.prog 61 #[.slice (some ⟨g, 0, none⟩) 2 2] w fun e w' => ∃ v, e = .returned v ∧ Kd.R k46 46 w' w.heap.size (fun k => w.heap.size ≤ k) v (l1 ++ l2) ∧ Below w.heap.size w w' := by
 have HN := aM_ hn
 have HC1 := aM_ h1
 have HC2 := aM_ h2
 have HG0 := aM_ hg0
 have HG1 := aM_ hg1
 have hw1 : wrap64 ((0 : Int) + (l1.length : Int)) = (l1.length : Int) := by rw [wrap64]; omega
 have hw1' : wrap64 (l1.length : Int) = (l1.length : Int) := by rw [wrap64]; omega
 have hw2 : wrap64 ((l1.length : Int) + (l2.length : Int)) = ((l1.length + l2.length : Nat) : Int) := by rw [wrap64]; omega
 have hn1 : decide ((l1.length : Int) < 0) = false := decide_eq_false (by omega)
 have hn2 : decide (((l1.length + l2.length : Nat) : Int) < 0) = false := decide_eq_false (by omega)
 clear hn h1 h2 hg0 hg1
 go_enter Tryz.func61, Tryz.ntmps61
 go_wp2
 go_loopg [11, 3] 2 (fun gg s11 s3 wr => ∃ i m : Nat, 2 - i ≤ gg ∧ s11 = .int .i64 i ∧ s3 = .int .i64 m ∧ ((i = 0 ∧ m = 0) ∨ (i = 1 ∧ m = l1.length) ∨ (i = 2 ∧ m = l1.length + l2.length)) ∧ Az (Below w.heap.size w wr))
 case atStart => exact ⟨0, 0, by omega, rfl, rfl, .inl ⟨rfl, rfl⟩, ⟨Below.refl _ _⟩⟩
 obtain ⟨i, m, hgg, rfl, rfl, hcs, HW⟩ := hrel
 rcases hcs with ⟨rfl, rfl⟩ | ⟨rfl, rfl⟩ | ⟨rfl, rfl⟩
 ·have r0 := ha_ HW.out HG0.out
  go_wp2
  go_roundg 1
  case measure => omega
  case rel => exact ⟨1, l1.length, by omega, by go_num, by first | rfl | (simp [hw1]; done) | go_num, .inr (.inl ⟨rfl, rfl⟩), HW⟩
 ·have r1 := ha_ HW.out HG1.out
  go_wp2
  go_roundg 0
  case measure => omega
  case rel => exact ⟨2, l1.length + l2.length, by omega, by go_num, by first | rfl | (simp [hw2]; done) | go_num, .inr (.inr ⟨rfl, rfl⟩), HW⟩
 have HGR := aM_ (zs_ (l1.length + l2.length) wr HN.out)
 clear hn1 hn2 hw1 hw1' hw2
 go_wp2_with fail
 refine HGR.out.mono ?_
 rintro e w2 ⟨v, rfl, hR, hB⟩
 have HR0 := aM_ (Kd.R_mono (ok' := fun k => w.heap.size ≤ k) (Kd.R_lower hR HW.out.size) (fun k hk => Nat.le_trans HW.out.size hk))
 have HW2 : Az (Below w.heap.size w w2) := ⟨ga_ HW.out hB⟩
 clear hR hB HGR
 go_wp2
 go_loopg [27, 6] 2 (fun gg s27 s6 wr => ∃ (i : Nat) (xs : List S46), 2 - i ≤ gg ∧ s27 = .int .i64 i ∧ ((i = 0 ∧ xs = []) ∨ (i = 1 ∧ xs = l1) ∨ (i = 2 ∧ xs = l1 ++ l2)) ∧ Az (Kd.R k46 46 wr w.heap.size (fun k => w.heap.size ≤ k) s6 xs) ∧ Az (Below w.heap.size w wr))
 case atStart => exact ⟨0, [], by omega, rfl, .inl ⟨rfl, rfl⟩, HR0, HW2⟩
 clear HR0 HW2
 obtain ⟨i, xs, hgg, rfl, hcs, HR, HW⟩ := hrel
 obtain ⟨A6, c6, hs6⟩ := Kd.R_slice HR.out
 subst hs6
 rcases hcs with ⟨rfl, rfl⟩ | ⟨rfl, rfl⟩ | ⟨rfl, rfl⟩
 ·have r0 := ha_ HW.out HG0.out
  have HCC := aM_ (Kd.C_below HC1.out HW.out)
  go_wp2_with (at_builtin; go_loud (refine Kd.R_append_rows k46 (w0 := w) w.heap.size rfl (.tmp 31) (.tmp 32) 40 46 (.agg #[.string ⟨#[]⟩, .int .i64 0, .int .i64 0]) 32 rfl Tryz.underlying40 (by kernel_rfl) rfl (by show 0 < 3; decide) (by decide) (.slice A6 0 c6) [] l1 A1 l1.length c1 (fun k => w.heap.size ≤ k) (fun _ => False) rfl rfl HR.out HCC.out (fun _ _ h => h) (fun _ h => h.elim) (fun k hk => Nat.le_trans HW.out.size hk) HW.out HW.out.size (by have := HN.out; simp; omega) ?_); intro v1 w1 ho hb hg hat)
  have ho' : Kd.R k46 46 w1 w.heap.size (fun k => w.heap.size ≤ k) v1 l1 := ho; have HR1 := aM_ ho'; have HW1 := aM_ hb; clear ho ho' hb hg hat HR HCC
  go_wp2
  go_roundg 1
  case measure => omega
  case rel => exact ⟨1, l1, by omega, by go_num, .inr (.inl ⟨rfl, rfl⟩), HR1, HW1⟩
 ·have r1 := ha_ HW.out HG1.out
  have HCC := aM_ (Kd.C_below HC2.out HW.out)
  go_wp2_with (at_builtin; go_loud (refine Kd.R_append_rows k46 (w0 := w) w.heap.size rfl (.tmp 31) (.tmp 32) 40 46 (.agg #[.string ⟨#[]⟩, .int .i64 0, .int .i64 0]) 32 rfl Tryz.underlying40 (by kernel_rfl) rfl (by show 0 < 3; decide) (by decide) (.slice A6 xs.length c6) xs l2 A2 l2.length c2 (fun k => w.heap.size ≤ k) (fun _ => False) rfl rfl HR.out HCC.out (fun _ _ h => h) (fun _ h => h.elim) (fun k hk => Nat.le_trans HW.out.size hk) HW.out HW.out.size (by have := HN.out; omega) ?_); intro v1 w1 ho hb hg hat)
  have HR1 := aM_ ho; have HW1 := aM_ hb; clear ho hb hg hat HR HCC
  go_wp2
  go_roundg 0
  case measure => omega
  case rel => exact ⟨2, xs ++ l2, by omega, by go_num, .inr (.inr ⟨rfl, rfl⟩), HR1, HW1⟩
 go_wp2
 go_ret
 exact ⟨_, rfl, HR.out, HW.out⟩
theorem ip_ (g : Nat) (A1 A2 : Option Addr) (c1 c2 : Nat) (l1 l2 : List S52) (w : World) (hg0 : w.cell? ⟨g, 0, none⟩ = some (.slice A1 l1.length c1)) (hg1 : w.cell? ⟨g, 1, none⟩ = some (.slice A2 l2.length c2)) (h1 : ∀ W, ReadsRow (Kd.M k52 W w.heap.size (fun _ => False)) (Kd.sz k52) W A1 l1.length l1) (h2 : ∀ W, ReadsRow (Kd.M k52 W w.heap.size (fun _ => False)) (Kd.sz k52) W A2 l2.length l2) (hn : l1.length + l2.length ≤ 1000000) :
  Calls Tryz.prog 62 #[.slice (some ⟨g, 0, none⟩) 2 2] w fun e w' => ∃ v, e = .returned v ∧ Kd.R k52 52 w' w.heap.size (fun k => w.heap.size ≤ k) v (l1 ++ l2) ∧ Below w.heap.size w w' := by
 have HN := aM_ hn
 have HC1 := aM_ h1
 have HC2 := aM_ h2
 have HG0 := aM_ hg0
 have HG1 := aM_ hg1
 have hw1 : wrap64 ((0 : Int) + (l1.length : Int)) = (l1.length : Int) := by rw [wrap64]; omega
 have hw1' : wrap64 (l1.length : Int) = (l1.length : Int) := by rw [wrap64]; omega
 have hw2 : wrap64 ((l1.length : Int) + (l2.length : Int)) = ((l1.length + l2.length : Nat) : Int) := by rw [wrap64]; omega
 have hn1 : decide ((l1.length : Int) < 0) = false := decide_eq_false (by omega)
 have hn2 : decide (((l1.length + l2.length : Nat) : Int) < 0) = false := decide_eq_false (by omega)
 clear hn h1 h2 hg0 hg1
 go_enter Tryz.func62, Tryz.ntmps62
 go_wp2
 go_loopg [11, 3] 2 (fun gg s11 s3 wr => ∃ i m : Nat, 2 - i ≤ gg ∧ s11 = .int .i64 i ∧ s3 = .int .i64 m ∧ ((i = 0 ∧ m = 0) ∨ (i = 1 ∧ m = l1.length) ∨ (i = 2 ∧ m = l1.length + l2.length)) ∧ Az (Below w.heap.size w wr))
 case atStart => exact ⟨0, 0, by omega, rfl, rfl, .inl ⟨rfl, rfl⟩, ⟨Below.refl _ _⟩⟩
 obtain ⟨i, m, hgg, rfl, rfl, hcs, HW⟩ := hrel
 rcases hcs with ⟨rfl, rfl⟩ | ⟨rfl, rfl⟩ | ⟨rfl, rfl⟩
 ·have r0 := ha_ HW.out HG0.out
  go_wp2
  go_roundg 1
  case measure => omega
  case rel => exact ⟨1, l1.length, by omega, by go_num, by first | rfl | (simp [hw1]; done) | go_num, .inr (.inl ⟨rfl, rfl⟩), HW⟩
 ·have r1 := ha_ HW.out HG1.out
  go_wp2
  go_roundg 0
  case measure => omega
  case rel => exact ⟨2, l1.length + l2.length, by omega, by go_num, by first | rfl | (simp [hw2]; done) | go_num, .inr (.inr ⟨rfl, rfl⟩), HW⟩
 have HGR := aM_ (ys_ (l1.length + l2.length) wr HN.out)
 clear hn1 hn2 hw1 hw1' hw2
 go_wp2_with fail
 refine HGR.out.mono ?_
 rintro e w2 ⟨v, rfl, hR, hB⟩
 have HR0 := aM_ (Kd.R_mono (ok' := fun k => w.heap.size ≤ k) (Kd.R_lower hR HW.out.size) (fun k hk => Nat.le_trans HW.out.size hk))
 have HW2 : Az (Below w.heap.size w w2) := ⟨ga_ HW.out hB⟩
 clear hR hB HGR
 go_wp2
 go_loopg [27, 6] 2 (fun gg s27 s6 wr => ∃ (i : Nat) (xs : List S52), 2 - i ≤ gg ∧ s27 = .int .i64 i ∧ ((i = 0 ∧ xs = []) ∨ (i = 1 ∧ xs = l1) ∨ (i = 2 ∧ xs = l1 ++ l2)) ∧ Az (Kd.R k52 52 wr w.heap.size (fun k => w.heap.size ≤ k) s6 xs) ∧ Az (Below w.heap.size w wr))
 case atStart => exact ⟨0, [], by omega, rfl, .inl ⟨rfl, rfl⟩, HR0, HW2⟩
 clear HR0 HW2
 obtain ⟨i, xs, hgg, rfl, hcs, HR, HW⟩ := hrel
 obtain ⟨A6, c6, hs6⟩ := Kd.R_slice HR.out
 subst hs6
 rcases hcs with ⟨rfl, rfl⟩ | ⟨rfl, rfl⟩ | ⟨rfl, rfl⟩
 ·have r0 := ha_ HW.out HG0.out
  have HCC := aM_ (HC1.out wr)
  go_wp2_with (at_builtin; go_loud (refine Kd.R_append_rows k52 (w0 := w) w.heap.size rfl (.tmp 31) (.tmp 32) 42 52 (.agg #[.int .i64 0, .slice none 0 0]) 32 rfl Tryz.underlying42 (by kernel_rfl) rfl (by show 0 < 2; decide) (by decide) (.slice A6 0 c6) [] l1 A1 l1.length c1 (fun k => w.heap.size ≤ k) (fun _ => False) rfl rfl HR.out HCC.out (fun _ _ h => h) (fun _ h => h.elim) (fun k hk => Nat.le_trans HW.out.size hk) HW.out HW.out.size (by have := HN.out; simp; omega) ?_); intro v1 w1 ho hb hg hat)
  have ho' : Kd.R k52 52 w1 w.heap.size (fun k => w.heap.size ≤ k) v1 l1 := ho; have HR1 := aM_ ho'; have HW1 := aM_ hb; clear ho ho' hb hg hat HR HCC
  go_wp2
  go_roundg 1
  case measure => omega
  case rel => exact ⟨1, l1, by omega, by go_num, .inr (.inl ⟨rfl, rfl⟩), HR1, HW1⟩
 ·have r1 := ha_ HW.out HG1.out
  have HCC := aM_ (HC2.out wr)
  go_wp2_with (at_builtin; go_loud (refine Kd.R_append_rows k52 (w0 := w) w.heap.size rfl (.tmp 31) (.tmp 32) 42 52 (.agg #[.int .i64 0, .slice none 0 0]) 32 rfl Tryz.underlying42 (by kernel_rfl) rfl (by show 0 < 2; decide) (by decide) (.slice A6 xs.length c6) xs l2 A2 l2.length c2 (fun k => w.heap.size ≤ k) (fun _ => False) rfl rfl HR.out HCC.out (fun _ _ h => h) (fun _ h => h.elim) (fun k hk => Nat.le_trans HW.out.size hk) HW.out HW.out.size (by have := HN.out; omega) ?_); intro v1 w1 ho hb hg hat)
  have HR1 := aM_ ho; have HW1 := aM_ hb; clear ho hb hg hat HR HCC
  go_wp2
  go_roundg 0
  case measure => omega
  case rel => exact ⟨2, xs ++ l2, by omega, by go_num, .inr (.inr ⟨rfl, rfl⟩), HR1, HW1⟩
 go_wp2
 go_ret
 exact ⟨_, rfl, HR.out, HW.out⟩
theorem yp_ {α : Type} {R : α → List Value → Prop} {sz : Nat} {w : World} {A : Option Addr} : ReadsRow R sz w A ([] : List α).length [] := ⟨rfl, by simp, fun h => absurd h (by simp)⟩
theorem hr_ (g : Nat) (A1 A2 : Option Addr) (c1 c2 : Nat) (w : World) (hg0 : w.cell? ⟨g, 0, none⟩ = some (.slice A1 0 c1)) (hg1 : w.cell? ⟨g, 1, none⟩ = some (.slice A2 0 c2)) :
  Calls Tryz.prog 62 #[.slice (some ⟨g, 0, none⟩) 2 2] w fun e w' => ∃ v, e = .returned v ∧ Kd.R k52 52 w' w.heap.size (fun k => w.heap.size ≤ k) v [] ∧ Below w.heap.size w w' := by
 exact ip_ g A1 A2 c1 c2 [] [] w hg0 hg1 (fun _ => yp_) (fun _ => yp_) (by simp)
theorem ht_ (w : World) : Calls Tryz.prog 102 #[.slice none 0 0] w fun e w' => e = .returned (.slice none 0 0) ∧ Below w.heap.size w w' := by
 have q22 : ∀ (w : World) (a : Option Addr) (n c n' c' : Nat), (binOp .eql 41 (.slice a n c) (.slice none n' c')).run Tryz.prog w = .ok (.bool a.isNone) w := fun w a n c n' c' => Lib.run_eql_slice_nil w _ _ a n c n' c' Tryz.underlying41
 go_enter Tryz.func102, Tryz.ntmps102
 go_wp2
 go_ret
 exact ⟨rfl, Below.refl _ _⟩
theorem wh_ (A : Option Addr) (c : Nat) (fv : Value) (w : World) : Calls Tryz.prog 58 #[.slice A 0 c, fv] w fun e w' => e = .returned (.slice none 0 0) ∧ Below w.heap.size w w' := by
 have HCL := aM_ (ht_)
 go_enter Tryz.func58, Tryz.ntmps58
 go_wp2
 go_loopg [10, 5] 0 (fun gg s10 s5 wr => s10 = .int .i64 0 ∧ s5 = .slice none 0 0 ∧ Az (wr = w))
 case atStart => exact ⟨rfl, rfl, ⟨rfl⟩⟩
 obtain ⟨rfl, rfl, HW⟩ := hrel
 go_wp2_with fail
 refine (HCL.out _).mono ?_
 rintro e w2 ⟨rfl, hB⟩
 rw [HW.out] at hB
 have HB := aM_ hB
 clear hB HW
 go_wp2
 go_ret
 exact ⟨rfl, HB.out⟩
theorem gt_ (w : World) : Calls Tryz.prog 66 #[.slice none 0 0] w fun e w' => e = .returned (.slice none 0 0) ∧ Below w.heap.size w w' := by
 have q22 : ∀ (w : World) (a : Option Addr) (n c n' c' : Nat), (binOp .eql 42 (.slice a n c) (.slice none n' c')).run Tryz.prog w = .ok (.bool a.isNone) w := fun w a n c n' c' => Lib.run_eql_slice_nil w _ _ a n c n' c' Tryz.underlying42
 go_enter Tryz.func66, Tryz.ntmps66
 go_wp2
 go_ret
 exact ⟨rfl, Below.refl _ _⟩
theorem pq_ (A : Option Addr) (c : Nat) (fv : Value) (w : World) : Calls Tryz.prog 63 #[.slice A 0 c, fv] w fun e w' => e = .returned (.slice none 0 0) ∧ Below w.heap.size w w' := by
 have HCL := aM_ (gt_)
 go_enter Tryz.func63, Tryz.ntmps63
 go_wp2
 go_loopg [10, 5] 0 (fun gg s10 s5 wr => s10 = .int .i64 0 ∧ s5 = .slice none 0 0 ∧ Az (wr = w))
 case atStart => exact ⟨rfl, rfl, ⟨rfl⟩⟩
 obtain ⟨rfl, rfl, HW⟩ := hrel
 go_wp2_with fail
 refine (HCL.out _).mono ?_
 rintro e w2 ⟨rfl, hB⟩
 rw [HW.out] at hB
 have HB := aM_ hB
 clear hB HW
 go_wp2
 go_ret
 exact ⟨rfl, HB.out⟩
def dj_ (l : List S44) : Prop := ∀ x ∈ l, x.f4 = [] ∧ x.f5 = []
def gh_ (l : List S44) : Nat → Int → List S46 → List S46
 | 0, _, out => out
 | n + 1, a, out => if kb_ a 0 ((l.length : Int) - 1) = true then gh_ l n (te_ l a) ((jb_ l a).f3 ++ out) else out
def lexP (l : List S44) (i : Nat) : List S46 := gh_ l (i + 1) i []
theorem wf_ {l : List S44} (h : dj_ l) : ∀ (n : Nat) (a : Int), qe_ l n a [] = []
 | 0, _ => rfl
 | n + 1, a => by
  rw [qe_]
  split
  ·rename_i hw
   have hr2 : 0 ≤ a ∧ a ≤ (l.length : Int) - 1 := by
    unfold kb_ at hw
    simpa using hw
   obtain ⟨k, rfl⟩ : ∃ k : Nat, a = (k : Int) := ⟨a.toNat, by omega⟩; have hk : k < l.length := by omega
   have hy : jb_ l (k : Int) = l[k] := by
    show l.getD (k : Int).toNat _ = _; rw [Int.toNat_natCast, List.getD_eq_getElem?_getD, List.getElem?_eq_getElem hk]; rfl
   rw [hy, (h _ (List.getElem_mem hk)).1, List.nil_append]; exact wf_ h n _
  rfl
def hitL (id : BA) (y : S44) : Bool := y.f0.toList == id.toList
theorem qo_ (A : Option Addr) (c : Nat) (l : List S44) (id : BA) (k : Nat) (w : World) (hr : Kd.C k44 w A l.length l) (hc : l.length ≤ c) (hpl : dj_ l) (hl : l.length ≤ 100000) (hlx : ∀ x ∈ l, x.f3.length ≤ 5) (hi : ce_ (hitL id) l = (k : Int)) (hk : k < l.length) :
  Calls Tryz.prog 23 #[.slice A l.length c, .string id] w fun e w' => ∃ v3 v4 v5, e = .returned (.tuple #[.agg #[.string id, .int .i64 (jb_ l (k : Int)).f1, .int .i64 (jb_ l (k : Int)).f2, v3, v4, v5], .bool true]) ∧ Kd.R k46 46 w' w.heap.size (fun _ => True) v3 (lexP l k) ∧ Kd.S k56 56 w' w.heap.size (fun _ => True) v4 [] ∧ Kd.S k52 52 w' w.heap.size (fun _ => True) v5 [] ∧ Below w.heap.size w w' := by
 have hmf : ∀ (fn : Fn) (first cap : Array Value) (w : World), (Instr.makeFunc fn first cap).run Tryz.prog w = .ok (.func fn first cap) w := fun _ _ _ _ => rfl
 have hkz : (k : Int) < (l.length : Int) := by omega
 have hnk : decide ((k : Int) < 0) = false := decide_eq_false (by omega)
 have HR := aM_ hr
 have HC := aM_ hc
 have HPL := aM_ hpl
 have HLL := aM_ hl
 have HLX := aM_ hlx
 have HK := aM_ hk
 have HRU : Az (∀ W, Below w.heap.size w W → Calls Tryz.prog 48 #[.slice A l.length c, .int .i64 k] W fun e w' => ∃ v : Value, e = .returned v ∧ Kd.N k56 56 w' W.heap.size (fun _ => True) v [] ∧ Below W.heap.size W w') := ⟨fun W hB => by
  have h := lj_ A c l k W (Kd.C_below HR.out hB) HC.out hk (by omega) (fun x hx => by rw [(HPL.out x hx).1]; exact Nat.zero_le _); have e : vf_ l k = [] := wf_ HPL.out _ _; rw [e] at h
  exact h⟩
 have HB2 : Az (Below w.heap.size w ((w.alloc (.cells #[.string id] 9)).alloc (.cells #[.string ⟨#[]⟩, .int .i64 0, .int .i64 0, .slice none 0 0, .slice none 0 0, .slice none 0 0] 44))) := ⟨aa_ (aa_ (Below.refl _ _) _) _⟩
 have HP2 : Az (((w.alloc (.cells #[.string id] 9)).alloc (.cells #[.string ⟨#[]⟩, .int .i64 0, .int .i64 0, .slice none 0 0, .slice none 0 0, .slice none 0 0] 44)).heap[w.heap.size]? = some (.cells #[.string id] 9 (0, 0))) := ⟨oa_ (ra_ w _) (aa_ (Below.refl _ _) _)⟩
 have HS2 : Az (((w.alloc (.cells #[.string id] 9)).alloc (.cells #[.string ⟨#[]⟩, .int .i64 0, .int .i64 0, .slice none 0 0, .slice none 0 0, .slice none 0 0] 44)).heap[w.heap.size + 1]? = some (.cells #[.string ⟨#[]⟩, .int .i64 0, .int .i64 0, .slice none 0 0, .slice none 0 0, .slice none 0 0] 44 (0, 0))) := ⟨by have := ra_ (w.alloc (.cells #[.string id] 9)) (.cells #[.string ⟨#[]⟩, .int .i64 0, .int .i64 0, .slice none 0 0, .slice none 0 0, .slice none 0 0] 44); simpa using this⟩
 have HIX := aM_ (pg_ (.func (.func 57) #[] #[.pointer (some ⟨w.heap.size, 0, none⟩)]) A c l (hitL id) _ (Kd.C_below HR.out HB2.out) HC.out (th_ w.heap.size id _ (ba_ HP2.out 0)))
 rw [hi] at HIX
 obtain ⟨ad, A3, c3, A4, c4, A5, c5, hA, h0, h1, h2, h3, h4, h5, l3, g3, l4, g4, l5, g5⟩ := rg_ hr (k : Int) (by omega) hkz
 rw [Int.toNat_natCast] at h0 h1 h2 h3 h4 h5
 generalize hp5 : (jb_ l (k : Int)).f1 = p5 at *
 generalize hd5 : (jb_ l (k : Int)).f2 = d5 at *
 subst hA
 have H1 := aM_ h1
 have H2 := aM_ h2
 clear hr hc hpl hl hlx hk hi h0 h1 h2 h3 h4 h5 l3 g3 l4 g4 l5 g5 hp5 hd5
 go_enter Tryz.func23, Tryz.ntmps23
 go_wp2_with fail
 generalize (w.alloc (.cells #[.string id] 9)).alloc (.cells #[.string ⟨#[]⟩, .int .i64 0, .int .i64 0, .slice none 0 0, .slice none 0 0, .slice none 0 0] 44) = W2 at *
 refine HIX.out.mono ?_
 rintro e W3 ⟨rfl, hB⟩
 replace HP2 := aM_ (oa_ HP2.out hB)
 replace HS2 := aM_ (oa_ HS2.out hB)
 replace HB2 : Az (Below w.heap.size w W3) := ⟨ga_ HB2.out hB⟩
 clear hB HIX
 have h0 : W3.cell? ⟨w.heap.size, 0, none⟩ = some (.string id) := ba_ HP2.out 0
 have h1 := ha_ HB2.out H1.out
 have h2 := ha_ HB2.out H2.out
 go_upto_region 4 with fail
 go_cut [7] (fun v7 wc => ∃ g : Nat, v7 = .pointer (some ⟨g, 0, none⟩) ∧ Az (w.heap.size + 2 ≤ g) ∧ Az (wc.heap[g]? = some (.cells #[.string id, .int .i64 p5, .int .i64 d5, .slice none 0 0, .slice none 0 0, .slice none 0 0] 44 (0, 0))) ∧ Az (wc.heap[w.heap.size + 1]? = some (.cells #[.string ⟨#[]⟩, .int .i64 0, .int .i64 0, .slice none 0 0, .slice none 0 0, .slice none 0 0] 44 (0, 0))) ∧ Az (Below w.heap.size w wc))
 case first =>
  refine yd_ (n := 18) (S := fun w' => w'.cell? ⟨w.heap.size, 0, none⟩ = some (.string id) ∧ w'.cell? ⟨(ad.add (k * 6)).block, (ad.add (k * 6)).off + 1, none⟩ = some (.int .i64 p5) ∧ w'.cell? ⟨(ad.add (k * 6)).block, (ad.add (k * 6)).off + 2, none⟩ = some (.int .i64 d5) ∧ Az (w'.heap[w.heap.size + 1]? = some (.cells #[.string ⟨#[]⟩, .int .i64 0, .int .i64 0, .slice none 0 0, .slice none 0 0, .slice none 0 0] 44 (0, 0))) ∧ Az (Below w.heap.size w w')) (ds := [17]) (f_ 18 0) (by kernel_rfl) rfl rfl ⟨h0, h1, h2, HS2, ⟨ca_ HB2.out 1⟩⟩ (fun hHeld => ?_); generalize W3.drew = w3 at *; refine tA_ 0 14 ?_ (f_ 18 1) rfl rfl (by kernel_rfl) (fun _ _ _ h => h) (by rfl) ?_ hHeld ?_ ?_ ?_; rotate_left
  ·rintro w' ⟨s0, s1, s2, s3, s4⟩
   go_simp; try with_reducible rfl
  rotate_left
  ·simp only [Act.put, s1_, s2_, s3_, ia_, ja_]
   rfl
  refine pU_ 1 15 ?_ (f_ 18 2) rfl rfl (by kernel_rfl) (fun _ _ _ h => h) (by rfl) ?_ ?_ ?_ ?_; rotate_left
  ·intro w'
   go_simp; try with_reducible rfl
  rotate_left
  ·simp only [Act.put, s1_, s2_, s3_, ia_, ja_]
   rfl
  refine pU_ 2 16 ?_ (f_ 18 3) rfl rfl (by kernel_rfl) (fun _ _ _ h => h) (by rfl) ?_ ?_ ?_ ?_; rotate_left
  ·intro w'
   go_simp; try with_reducible rfl
  rotate_left
  ·simp only [Act.put, s1_, s2_, s3_, ia_, ja_]
   rfl
  refine pU_ 3 17 ?_ (f_ 18 4) rfl rfl (by kernel_rfl) (fun _ _ _ h => h) (by rfl) ?_ ?_ ?_ ?_; rotate_left
  ·intro w'
   go_simp; try with_reducible rfl
  rotate_left
  ·simp only [Act.put, s1_, s2_, s3_, ia_, ja_]
   rfl
  refine pU_ 4 18 ?_ (f_ 18 5) rfl rfl (by kernel_rfl) (fun _ _ _ h => h) (by rfl) ?_ ?_ ?_ ?_; rotate_left
  ·intro w'
   go_simp; try with_reducible rfl
  rotate_left
  ·simp only [Act.put, s1_, s2_, s3_, ia_, ja_]
   rfl
  refine tA_ 5 19 ?_ (f_ 18 6) rfl rfl (by kernel_rfl) (fun _ _ _ h => h) (by rfl) ?_ hHeld ?_ ?_ ?_; rotate_left
  ·rintro w' ⟨s0, s1, s2, s3, s4⟩
   go_simp; try with_reducible rfl
  rotate_left
  ·simp only [Act.put, s1_, s2_, s3_, ia_, ja_]
   rfl
  refine pU_ 6 20 ?_ (f_ 18 7) rfl rfl (by kernel_rfl) (fun _ _ _ h => h) (by rfl) ?_ ?_ ?_ ?_; rotate_left
  ·intro w'
   go_simp; try with_reducible rfl
  rotate_left
  ·simp only [Act.put, s1_, s2_, s3_, ia_, ja_]
   rfl
  refine pU_ 7 21 ?_ (f_ 18 8) rfl rfl (by kernel_rfl) (fun _ _ _ h => h) (by rfl) ?_ ?_ ?_ ?_; rotate_left
  ·intro w'
   go_simp; try with_reducible rfl
  rotate_left
  ·simp only [Act.put, s1_, s2_, s3_, ia_, ja_]
   rfl
  refine pU_ 8 22 ?_ (f_ 18 9) rfl rfl (by kernel_rfl) (fun _ _ _ h => h) (by rfl) ?_ ?_ ?_ ?_; rotate_left
  ·intro w'
   go_simp; try with_reducible rfl
  rotate_left
  ·simp only [Act.put, s1_, s2_, s3_, ia_, ja_]
   rfl
  refine pU_ 9 23 ?_ (f_ 18 10) rfl rfl (by kernel_rfl) (fun _ _ _ h => h) (by rfl) ?_ ?_ ?_ ?_; rotate_left
  ·intro w'
   go_simp; try with_reducible rfl
  rotate_left
  ·simp only [Act.put, s1_, s2_, s3_, ia_, ja_]
   rfl
  refine tA_ 10 24 ?_ (f_ 18 11) rfl rfl (by kernel_rfl) (fun _ _ _ h => h) (by rfl) ?_ hHeld ?_ ?_ ?_; rotate_left
  ·rintro w' ⟨s0, s1, s2, s3, s4⟩
   go_simp; try with_reducible rfl
  rotate_left
  ·simp only [Act.put, s1_, s2_, s3_, ia_, ja_]
   rfl
  refine pU_ 11 25 ?_ (f_ 18 12) rfl rfl (by kernel_rfl) (fun _ _ _ h => h) (by rfl) ?_ ?_ ?_ ?_; rotate_left
  ·intro w'
   go_simp; try with_reducible rfl
  rotate_left
  ·simp only [Act.put, s1_, s2_, s3_, ia_, ja_]
   rfl
  refine pU_ 12 26 ?_ (f_ 18 13) rfl rfl (by kernel_rfl) (fun _ _ _ h => h) (by rfl) ?_ ?_ ?_ ?_; rotate_left
  ·intro w'
   go_simp; try with_reducible rfl
  rotate_left
  ·simp only [Act.put, s1_, s2_, s3_, ia_, ja_]
   rfl
  refine two_ (i := 13) (j := 16) (Ni := some 27) (Nj := some 7) (f_ 18 14) #[true, true, true, true, true, true, true, true, true, true, true, true, true, false, false, false, true, false] rfl rfl rfl rfl (by kernel_rfl) (by decide) (by decide) (fun K hK => ?_) (fun K hK => ?_)
  ·refine xb_ Tryz.func48 (by kernel_rfl) rfl #[.slice (some ad) l.length c, .int .i64 k] (by rfl) rfl rfl (by (try simp only [List.map_toArray, List.map_cons, List.map_nil]); rfl) ?_
   refine (HRU.out _ hHeld.2.2.2.2.out).mono ?_; rintro e w4 ⟨v8, rfl, hN, hB⟩; obtain ⟨A8, c8, hs8⟩ := Kd.N_slice hN; have hs9 : v8 = .slice A8 0 c8 := hs8; subst hs9; clear hN hs8; refine ⟨_, rfl, ?_⟩; refine hK.out _ _ ⟨ha_ hB hHeld.1, ha_ hB hHeld.2.1, ha_ hB hHeld.2.2.1, ⟨oa_ hHeld.2.2.2.1.out hB⟩, ⟨ga_ hHeld.2.2.2.2.out hB⟩⟩ (fun hHeld => ?_); clear hK K; refine wa_ (a' := ?_) ?_ ?_; rotate_left
   ·show Act.put _ (some 27) _ = _
    simp only [Act.put, s1_, s2_, s3_, ia_, ja_]; rfl
   refine two_ (i := 14) (j := 16) (Ni := some 28) (Nj := some 7) (f_ 18 15) #[true, true, true, true, true, true, true, true, true, true, true, true, true, true, false, false, true, false] rfl rfl rfl rfl (by kernel_rfl) (by decide) (by decide) (fun K hK => ?_) (fun K hK => ?_)
   ·refine xb_ Tryz.func58 (by kernel_rfl) rfl #[.slice A8 0 c8, .func (.func 59) #[] #[]] (by rfl) rfl rfl (by (try simp only [List.map_toArray, List.map_cons, List.map_nil]); rfl) ?_
    refine (wh_ A8 c8 _ _).mono ?_; rintro e w5 ⟨rfl, hB⟩; refine ⟨_, rfl, ?_⟩; refine hK.out _ _ ⟨ha_ hB hHeld.1, ha_ hB hHeld.2.1, ha_ hB hHeld.2.2.1, ⟨oa_ hHeld.2.2.2.1.out hB⟩, ⟨ga_ hHeld.2.2.2.2.out hB⟩⟩ (fun hHeld => ?_); clear hK K; refine wa_ (a' := ?_) ?_ ?_; rotate_left
    ·show Act.put _ (some 28) _ = _
     simp only [Act.put, s1_, s2_, s3_, ia_, ja_]; rfl
    refine pU_ 15 29 ?_ (f_ 18 16) rfl rfl (by kernel_rfl) (fun _ _ _ h => h) (by rfl) ?_ ?_ ?_ ?_; rotate_left
    ·intro w'
     go_simp; try with_reducible rfl
    rotate_left
    ·simp only [Act.put, s1_, s2_, s3_, ia_, ja_]
     rfl
    refine one_ (i := 16) (N := some 7) (f_ 18 17) rfl rfl (by kernel_rfl) (by decide) (fun K hK => ?_); refine ad_ (w1 := ?_) (v := ?_) (by rfl) rfl ?_ ?_; rotate_left 2
    ·go_simp
     constructor
     ·rfl
     rfl
    have hB := aa_ (Below.refl w5.heap.size w5) (.cells #[.string ⟨#[]⟩, .int .i64 0, .int .i64 0, .slice none 0 0, .slice none 0 0, .slice none 0 0] 44); have HG := aM_ (ra_ w5 (.cells #[.string ⟨#[]⟩, .int .i64 0, .int .i64 0, .slice none 0 0, .slice none 0 0, .slice none 0 0] 44)); have HZ : Az (w.heap.size + 2 ≤ w5.heap.size) := ⟨by have := eb_ hHeld.2.2.2.1.out; omega⟩; refine hK.out _ _ ⟨ha_ hB hHeld.1, ha_ hB hHeld.2.1, ha_ hB hHeld.2.2.1, ⟨oa_ hHeld.2.2.2.1.out hB⟩, ⟨ga_ hHeld.2.2.2.2.out hB⟩⟩ (fun hHeld => ?_); clear hK K; generalize hgg : w5.heap.size = g at *; generalize w5.alloc (.cells #[.string ⟨#[]⟩, .int .i64 0, .int .i64 0, .slice none 0 0, .slice none 0 0, .slice none 0 0] 44) = W9 at *; have hK := trivial; have K := trivial; clear hK K; refine wa_ (a' := ?_) ?_ ?_; rotate_left
    ·show Act.put _ (some 7) _ = _
     simp only [Act.put, s1_, s2_, s3_, ia_, ja_]; rfl
    refine xh_ (i := 17) (N := none) (f_ 18 18) rfl rfl (by kernel_rfl) (by decide) (fun K hK => ?_); generalize W9 = w6 at *; have hz0 : w6.cell? ⟨g, 0, none⟩ = some (.string ⟨#[]⟩) := (ba_ HG.out 0).trans rfl; have hy0 := da_ HG.out 0; have hz1 : w6.cell? ⟨g, 1, none⟩ = some (.int .i64 0) := (ba_ HG.out 1).trans rfl; have hy1 := da_ HG.out 1; have hz2 : w6.cell? ⟨g, 2, none⟩ = some (.int .i64 0) := (ba_ HG.out 2).trans rfl; have hy2 := da_ HG.out 2; have hz3 : w6.cell? ⟨g, 3, none⟩ = some (.slice none 0 0) := (ba_ HG.out 3).trans rfl; have hy3 := da_ HG.out 3; have hz4 : w6.cell? ⟨g, 4, none⟩ = some (.slice none 0 0) := (ba_ HG.out 4).trans rfl; have hy4 := da_ HG.out 4; have hz5 : w6.cell? ⟨g, 5, none⟩ = some (.slice none 0 0) := (ba_ HG.out 5).trans rfl; have hy5 := da_ HG.out 5; refine qh_ (w1 := ?_) (by rfl) rfl ?_ ?_; rotate_left
    ·go_simp
     rfl
    refine hK.out _ _ ?_; clear hK K; refine ge_ (by kernel_rfl) ?_; have HGE : Az (w.heap.size ≤ g) := ⟨by have := HZ.out; omega⟩; have HW6 := hHeld.2.2.2.2; have HF : Az (((((((w6.setCell ⟨g, 0, none⟩ (.string id)).setCell ⟨g, 1, none⟩ (.int .i64 p5)).setCell ⟨g, 2, none⟩ (.int .i64 d5)).setCell ⟨g, 3, none⟩ (.slice none 0 0)).setCell ⟨g, 4, none⟩ (.slice none 0 0)).setCell ⟨g, 5, none⟩ (.slice none 0 0)).heap[g]? = some (.cells #[.string id, .int .i64 p5, .int .i64 d5, .slice none 0 0, .slice none 0 0, .slice none 0 0] 44 (0, 0))) := ⟨by simpa using (va_ (va_ (va_ (va_ (va_ (va_ HG.out 0 (.string id)) 1 (.int .i64 p5)) 2 (.int .i64 d5)) 3 (.slice none 0 0)) 4 (.slice none 0 0)) 5 (.slice none 0 0))⟩; have HBF : Az (Below w.heap.size w ((((((w6.setCell ⟨g, 0, none⟩ (.string id)).setCell ⟨g, 1, none⟩ (.int .i64 p5)).setCell ⟨g, 2, none⟩ (.int .i64 d5)).setCell ⟨g, 3, none⟩ (.slice none 0 0)).setCell ⟨g, 4, none⟩ (.slice none 0 0)).setCell ⟨g, 5, none⟩ (.slice none 0 0))) := ⟨(Below.setCell (p := ⟨g, 5, none⟩) (Below.setCell (p := ⟨g, 4, none⟩) (Below.setCell (p := ⟨g, 3, none⟩) (Below.setCell (p := ⟨g, 2, none⟩) (Below.setCell (p := ⟨g, 1, none⟩) (Below.setCell (p := ⟨g, 0, none⟩) HW6.out HGE.out (.string id)) HGE.out (.int .i64 p5)) HGE.out (.int .i64 d5)) HGE.out (.slice none 0 0)) HGE.out (.slice none 0 0)) HGE.out (.slice none 0 0))⟩; have HSF : Az (((((((w6.setCell ⟨g, 0, none⟩ (.string id)).setCell ⟨g, 1, none⟩ (.int .i64 p5)).setCell ⟨g, 2, none⟩ (.int .i64 d5)).setCell ⟨g, 3, none⟩ (.slice none 0 0)).setCell ⟨g, 4, none⟩ (.slice none 0 0)).setCell ⟨g, 5, none⟩ (.slice none 0 0)).heap[w.heap.size + 1]? = some (.cells #[.string ⟨#[]⟩, .int .i64 0, .int .i64 0, .slice none 0 0, .slice none 0 0, .slice none 0 0] 44 (0, 0))) := ⟨((heap_setCell_other (((((w6.setCell ⟨g, 0, none⟩ (.string id)).setCell ⟨g, 1, none⟩ (.int .i64 p5)).setCell ⟨g, 2, none⟩ (.int .i64 d5)).setCell ⟨g, 3, none⟩ (.slice none 0 0)).setCell ⟨g, 4, none⟩ (.slice none 0 0)) ⟨g, 5, none⟩ (w.heap.size + 1) (.slice none 0 0) (by have := HZ.out; show w.heap.size + 1 ≠ g; omega)).trans ((heap_setCell_other ((((w6.setCell ⟨g, 0, none⟩ (.string id)).setCell ⟨g, 1, none⟩ (.int .i64 p5)).setCell ⟨g, 2, none⟩ (.int .i64 d5)).setCell ⟨g, 3, none⟩ (.slice none 0 0)) ⟨g, 4, none⟩ (w.heap.size + 1) (.slice none 0 0) (by have := HZ.out; show w.heap.size + 1 ≠ g; omega)).trans ((heap_setCell_other (((w6.setCell ⟨g, 0, none⟩ (.string id)).setCell ⟨g, 1, none⟩ (.int .i64 p5)).setCell ⟨g, 2, none⟩ (.int .i64 d5)) ⟨g, 3, none⟩ (w.heap.size + 1) (.slice none 0 0) (by have := HZ.out; show w.heap.size + 1 ≠ g; omega)).trans ((heap_setCell_other ((w6.setCell ⟨g, 0, none⟩ (.string id)).setCell ⟨g, 1, none⟩ (.int .i64 p5)) ⟨g, 2, none⟩ (w.heap.size + 1) (.int .i64 d5) (by have := HZ.out; show w.heap.size + 1 ≠ g; omega)).trans ((heap_setCell_other (w6.setCell ⟨g, 0, none⟩ (.string id)) ⟨g, 1, none⟩ (w.heap.size + 1) (.int .i64 p5) (by have := HZ.out; show w.heap.size + 1 ≠ g; omega)).trans ((heap_setCell_other w6 ⟨g, 0, none⟩ (w.heap.size + 1) (.string id) (by have := HZ.out; show w.heap.size + 1 ≠ g; omega)).trans hHeld.2.2.2.1.out))))))⟩
    generalize ((((((w6.setCell ⟨g, 0, none⟩ (.string id)).setCell ⟨g, 1, none⟩ (.int .i64 p5)).setCell ⟨g, 2, none⟩ (.int .i64 d5)).setCell ⟨g, 3, none⟩ (.slice none 0 0)).setCell ⟨g, 4, none⟩ (.slice none 0 0)).setCell ⟨g, 5, none⟩ (.slice none 0 0)) = w7 at *; clear hHeld
    go_wp2_with fail
    go_meet
    case rel => exact ⟨g, rfl, HZ, HF, HSF, HBF⟩
   refine ad_ (w1 := ?_) (v := ?_) (by rfl) rfl ?_ ?_; rotate_left 2
   ·go_simp
    constructor
    ·rfl
    rfl
   have hB := aa_ (Below.refl w4.heap.size w4) (.cells #[.string ⟨#[]⟩, .int .i64 0, .int .i64 0, .slice none 0 0, .slice none 0 0, .slice none 0 0] 44); have HG := aM_ (ra_ w4 (.cells #[.string ⟨#[]⟩, .int .i64 0, .int .i64 0, .slice none 0 0, .slice none 0 0, .slice none 0 0] 44)); have HZ : Az (w.heap.size + 2 ≤ w4.heap.size) := ⟨by have := eb_ hHeld.2.2.2.1.out; omega⟩; refine hK.out _ _ ⟨ha_ hB hHeld.1, ha_ hB hHeld.2.1, ha_ hB hHeld.2.2.1, ⟨oa_ hHeld.2.2.2.1.out hB⟩, ⟨ga_ hHeld.2.2.2.2.out hB⟩⟩ (fun hHeld => ?_); clear hK K; generalize hgg : w4.heap.size = g at *; generalize w4.alloc (.cells #[.string ⟨#[]⟩, .int .i64 0, .int .i64 0, .slice none 0 0, .slice none 0 0, .slice none 0 0] 44) = W9 at *; have hK := trivial; have K := trivial; clear hK K; refine wa_ (a' := ?_) ?_ ?_; rotate_left
   ·show Act.put _ (some 7) _ = _
    simp only [Act.put, s1_, s2_, s3_, ia_, ja_]; rfl
   refine one_ (i := 14) (N := some 28) #[true, true, true, true, true, true, true, true, true, true, true, true, true, true, true, false, true, false] rfl rfl (by kernel_rfl) (by decide) (fun K hK => ?_); refine xb_ Tryz.func58 (by kernel_rfl) rfl #[.slice A8 0 c8, .func (.func 59) #[] #[]] (by rfl) rfl rfl (by (try simp only [List.map_toArray, List.map_cons, List.map_nil]); rfl) ?_
   refine (wh_ A8 c8 _ _).mono ?_; rintro e w5 ⟨rfl, hB⟩; have HG := aM_ (oa_ HG.out hB); refine ⟨_, rfl, ?_⟩; refine hK.out _ _ ⟨ha_ hB hHeld.1, ha_ hB hHeld.2.1, ha_ hB hHeld.2.2.1, ⟨oa_ hHeld.2.2.2.1.out hB⟩, ⟨ga_ hHeld.2.2.2.2.out hB⟩⟩ (fun hHeld => ?_); clear hK K; refine wa_ (a' := ?_) ?_ ?_; rotate_left
   ·show Act.put _ (some 28) _ = _
    simp only [Act.put, s1_, s2_, s3_, ia_, ja_]; rfl
   refine pU_ 15 29 ?_ (f_ 18 17) rfl rfl (by kernel_rfl) (fun _ _ _ h => h) (by rfl) ?_ ?_ ?_ ?_; rotate_left
   ·intro w'
    go_simp; try with_reducible rfl
   rotate_left
   ·simp only [Act.put, s1_, s2_, s3_, ia_, ja_]
    rfl
   refine xh_ (i := 17) (N := none) (f_ 18 18) rfl rfl (by kernel_rfl) (by decide) (fun K hK => ?_); generalize w5 = w6 at *; have hz0 : w6.cell? ⟨g, 0, none⟩ = some (.string ⟨#[]⟩) := (ba_ HG.out 0).trans rfl; have hy0 := da_ HG.out 0; have hz1 : w6.cell? ⟨g, 1, none⟩ = some (.int .i64 0) := (ba_ HG.out 1).trans rfl; have hy1 := da_ HG.out 1; have hz2 : w6.cell? ⟨g, 2, none⟩ = some (.int .i64 0) := (ba_ HG.out 2).trans rfl; have hy2 := da_ HG.out 2; have hz3 : w6.cell? ⟨g, 3, none⟩ = some (.slice none 0 0) := (ba_ HG.out 3).trans rfl; have hy3 := da_ HG.out 3; have hz4 : w6.cell? ⟨g, 4, none⟩ = some (.slice none 0 0) := (ba_ HG.out 4).trans rfl; have hy4 := da_ HG.out 4; have hz5 : w6.cell? ⟨g, 5, none⟩ = some (.slice none 0 0) := (ba_ HG.out 5).trans rfl; have hy5 := da_ HG.out 5; refine qh_ (w1 := ?_) (by rfl) rfl ?_ ?_; rotate_left
   ·go_simp
    rfl
   refine hK.out _ _ ?_; clear hK K; refine ge_ (by kernel_rfl) ?_; have HGE : Az (w.heap.size ≤ g) := ⟨by have := HZ.out; omega⟩; have HW6 := hHeld.2.2.2.2; have HF : Az (((((((w6.setCell ⟨g, 0, none⟩ (.string id)).setCell ⟨g, 1, none⟩ (.int .i64 p5)).setCell ⟨g, 2, none⟩ (.int .i64 d5)).setCell ⟨g, 3, none⟩ (.slice none 0 0)).setCell ⟨g, 4, none⟩ (.slice none 0 0)).setCell ⟨g, 5, none⟩ (.slice none 0 0)).heap[g]? = some (.cells #[.string id, .int .i64 p5, .int .i64 d5, .slice none 0 0, .slice none 0 0, .slice none 0 0] 44 (0, 0))) := ⟨by simpa using (va_ (va_ (va_ (va_ (va_ (va_ HG.out 0 (.string id)) 1 (.int .i64 p5)) 2 (.int .i64 d5)) 3 (.slice none 0 0)) 4 (.slice none 0 0)) 5 (.slice none 0 0))⟩; have HBF : Az (Below w.heap.size w ((((((w6.setCell ⟨g, 0, none⟩ (.string id)).setCell ⟨g, 1, none⟩ (.int .i64 p5)).setCell ⟨g, 2, none⟩ (.int .i64 d5)).setCell ⟨g, 3, none⟩ (.slice none 0 0)).setCell ⟨g, 4, none⟩ (.slice none 0 0)).setCell ⟨g, 5, none⟩ (.slice none 0 0))) := ⟨(Below.setCell (p := ⟨g, 5, none⟩) (Below.setCell (p := ⟨g, 4, none⟩) (Below.setCell (p := ⟨g, 3, none⟩) (Below.setCell (p := ⟨g, 2, none⟩) (Below.setCell (p := ⟨g, 1, none⟩) (Below.setCell (p := ⟨g, 0, none⟩) HW6.out HGE.out (.string id)) HGE.out (.int .i64 p5)) HGE.out (.int .i64 d5)) HGE.out (.slice none 0 0)) HGE.out (.slice none 0 0)) HGE.out (.slice none 0 0))⟩; have HSF : Az (((((((w6.setCell ⟨g, 0, none⟩ (.string id)).setCell ⟨g, 1, none⟩ (.int .i64 p5)).setCell ⟨g, 2, none⟩ (.int .i64 d5)).setCell ⟨g, 3, none⟩ (.slice none 0 0)).setCell ⟨g, 4, none⟩ (.slice none 0 0)).setCell ⟨g, 5, none⟩ (.slice none 0 0)).heap[w.heap.size + 1]? = some (.cells #[.string ⟨#[]⟩, .int .i64 0, .int .i64 0, .slice none 0 0, .slice none 0 0, .slice none 0 0] 44 (0, 0))) := ⟨((heap_setCell_other (((((w6.setCell ⟨g, 0, none⟩ (.string id)).setCell ⟨g, 1, none⟩ (.int .i64 p5)).setCell ⟨g, 2, none⟩ (.int .i64 d5)).setCell ⟨g, 3, none⟩ (.slice none 0 0)).setCell ⟨g, 4, none⟩ (.slice none 0 0)) ⟨g, 5, none⟩ (w.heap.size + 1) (.slice none 0 0) (by have := HZ.out; show w.heap.size + 1 ≠ g; omega)).trans ((heap_setCell_other ((((w6.setCell ⟨g, 0, none⟩ (.string id)).setCell ⟨g, 1, none⟩ (.int .i64 p5)).setCell ⟨g, 2, none⟩ (.int .i64 d5)).setCell ⟨g, 3, none⟩ (.slice none 0 0)) ⟨g, 4, none⟩ (w.heap.size + 1) (.slice none 0 0) (by have := HZ.out; show w.heap.size + 1 ≠ g; omega)).trans ((heap_setCell_other (((w6.setCell ⟨g, 0, none⟩ (.string id)).setCell ⟨g, 1, none⟩ (.int .i64 p5)).setCell ⟨g, 2, none⟩ (.int .i64 d5)) ⟨g, 3, none⟩ (w.heap.size + 1) (.slice none 0 0) (by have := HZ.out; show w.heap.size + 1 ≠ g; omega)).trans ((heap_setCell_other ((w6.setCell ⟨g, 0, none⟩ (.string id)).setCell ⟨g, 1, none⟩ (.int .i64 p5)) ⟨g, 2, none⟩ (w.heap.size + 1) (.int .i64 d5) (by have := HZ.out; show w.heap.size + 1 ≠ g; omega)).trans ((heap_setCell_other (w6.setCell ⟨g, 0, none⟩ (.string id)) ⟨g, 1, none⟩ (w.heap.size + 1) (.int .i64 p5) (by have := HZ.out; show w.heap.size + 1 ≠ g; omega)).trans ((heap_setCell_other w6 ⟨g, 0, none⟩ (w.heap.size + 1) (.string id) (by have := HZ.out; show w.heap.size + 1 ≠ g; omega)).trans hHeld.2.2.2.1.out))))))⟩
   generalize ((((((w6.setCell ⟨g, 0, none⟩ (.string id)).setCell ⟨g, 1, none⟩ (.int .i64 p5)).setCell ⟨g, 2, none⟩ (.int .i64 d5)).setCell ⟨g, 3, none⟩ (.slice none 0 0)).setCell ⟨g, 4, none⟩ (.slice none 0 0)).setCell ⟨g, 5, none⟩ (.slice none 0 0)) = w7 at *; clear hHeld
   go_wp2_with fail
   go_meet
   case rel => exact ⟨g, rfl, HZ, HF, HSF, HBF⟩
  refine ad_ (w1 := ?_) (v := ?_) (by rfl) rfl ?_ ?_; rotate_left 2
  ·go_simp
   constructor
   ·rfl
   rfl
  have hB := aa_ (Below.refl w3.heap.size w3) (.cells #[.string ⟨#[]⟩, .int .i64 0, .int .i64 0, .slice none 0 0, .slice none 0 0, .slice none 0 0] 44); have HG := aM_ (ra_ w3 (.cells #[.string ⟨#[]⟩, .int .i64 0, .int .i64 0, .slice none 0 0, .slice none 0 0, .slice none 0 0] 44)); have HZ : Az (w.heap.size + 2 ≤ w3.heap.size) := ⟨by have := eb_ hHeld.2.2.2.1.out; omega⟩; refine hK.out _ _ ⟨ha_ hB hHeld.1, ha_ hB hHeld.2.1, ha_ hB hHeld.2.2.1, ⟨oa_ hHeld.2.2.2.1.out hB⟩, ⟨ga_ hHeld.2.2.2.2.out hB⟩⟩ (fun hHeld => ?_); clear hK K; generalize hgg : w3.heap.size = g at *; generalize w3.alloc (.cells #[.string ⟨#[]⟩, .int .i64 0, .int .i64 0, .slice none 0 0, .slice none 0 0, .slice none 0 0] 44) = W9 at *; have hK := trivial; have K := trivial; clear hK K; refine wa_ (a' := ?_) ?_ ?_; rotate_left
  ·show Act.put _ (some 7) _ = _
   simp only [Act.put, s1_, s2_, s3_, ia_, ja_]; rfl
  refine one_ (i := 13) (N := some 27) #[true, true, true, true, true, true, true, true, true, true, true, true, true, true, false, false, true, false] rfl rfl (by kernel_rfl) (by decide) (fun K hK => ?_); refine xb_ Tryz.func48 (by kernel_rfl) rfl #[.slice (some ad) l.length c, .int .i64 k] (by rfl) rfl rfl (by (try simp only [List.map_toArray, List.map_cons, List.map_nil]); rfl) ?_
  refine (HRU.out _ hHeld.2.2.2.2.out).mono ?_; rintro e w4 ⟨v8, rfl, hN, hB⟩; obtain ⟨A8, c8, hs8⟩ := Kd.N_slice hN; have hs9 : v8 = .slice A8 0 c8 := hs8; subst hs9; have HG := aM_ (oa_ HG.out hB); clear hN hs8; refine ⟨_, rfl, ?_⟩; refine hK.out _ _ ⟨ha_ hB hHeld.1, ha_ hB hHeld.2.1, ha_ hB hHeld.2.2.1, ⟨oa_ hHeld.2.2.2.1.out hB⟩, ⟨ga_ hHeld.2.2.2.2.out hB⟩⟩ (fun hHeld => ?_); clear hK K; refine wa_ (a' := ?_) ?_ ?_; rotate_left
  ·show Act.put _ (some 27) _ = _
   simp only [Act.put, s1_, s2_, s3_, ia_, ja_]; rfl
  refine one_ (i := 14) (N := some 28) #[true, true, true, true, true, true, true, true, true, true, true, true, true, true, true, false, true, false] rfl rfl (by kernel_rfl) (by decide) (fun K hK => ?_); refine xb_ Tryz.func58 (by kernel_rfl) rfl #[.slice A8 0 c8, .func (.func 59) #[] #[]] (by rfl) rfl rfl (by (try simp only [List.map_toArray, List.map_cons, List.map_nil]); rfl) ?_
  refine (wh_ A8 c8 _ _).mono ?_; rintro e w5 ⟨rfl, hB⟩; have HG := aM_ (oa_ HG.out hB); refine ⟨_, rfl, ?_⟩; refine hK.out _ _ ⟨ha_ hB hHeld.1, ha_ hB hHeld.2.1, ha_ hB hHeld.2.2.1, ⟨oa_ hHeld.2.2.2.1.out hB⟩, ⟨ga_ hHeld.2.2.2.2.out hB⟩⟩ (fun hHeld => ?_); clear hK K; refine wa_ (a' := ?_) ?_ ?_; rotate_left
  ·show Act.put _ (some 28) _ = _
   simp only [Act.put, s1_, s2_, s3_, ia_, ja_]; rfl
  refine pU_ 15 29 ?_ (f_ 18 17) rfl rfl (by kernel_rfl) (fun _ _ _ h => h) (by rfl) ?_ ?_ ?_ ?_; rotate_left
  ·intro w'
   go_simp; try with_reducible rfl
  rotate_left
  ·simp only [Act.put, s1_, s2_, s3_, ia_, ja_]
   rfl
  refine xh_ (i := 17) (N := none) (f_ 18 18) rfl rfl (by kernel_rfl) (by decide) (fun K hK => ?_); generalize w5 = w6 at *; have hz0 : w6.cell? ⟨g, 0, none⟩ = some (.string ⟨#[]⟩) := (ba_ HG.out 0).trans rfl; have hy0 := da_ HG.out 0; have hz1 : w6.cell? ⟨g, 1, none⟩ = some (.int .i64 0) := (ba_ HG.out 1).trans rfl; have hy1 := da_ HG.out 1; have hz2 : w6.cell? ⟨g, 2, none⟩ = some (.int .i64 0) := (ba_ HG.out 2).trans rfl; have hy2 := da_ HG.out 2; have hz3 : w6.cell? ⟨g, 3, none⟩ = some (.slice none 0 0) := (ba_ HG.out 3).trans rfl; have hy3 := da_ HG.out 3; have hz4 : w6.cell? ⟨g, 4, none⟩ = some (.slice none 0 0) := (ba_ HG.out 4).trans rfl; have hy4 := da_ HG.out 4; have hz5 : w6.cell? ⟨g, 5, none⟩ = some (.slice none 0 0) := (ba_ HG.out 5).trans rfl; have hy5 := da_ HG.out 5; refine qh_ (w1 := ?_) (by rfl) rfl ?_ ?_; rotate_left
  ·go_simp
   rfl
  refine hK.out _ _ ?_; clear hK K; refine ge_ (by kernel_rfl) ?_; have HGE : Az (w.heap.size ≤ g) := ⟨by have := HZ.out; omega⟩; have HW6 := hHeld.2.2.2.2; have HF : Az (((((((w6.setCell ⟨g, 0, none⟩ (.string id)).setCell ⟨g, 1, none⟩ (.int .i64 p5)).setCell ⟨g, 2, none⟩ (.int .i64 d5)).setCell ⟨g, 3, none⟩ (.slice none 0 0)).setCell ⟨g, 4, none⟩ (.slice none 0 0)).setCell ⟨g, 5, none⟩ (.slice none 0 0)).heap[g]? = some (.cells #[.string id, .int .i64 p5, .int .i64 d5, .slice none 0 0, .slice none 0 0, .slice none 0 0] 44 (0, 0))) := ⟨by simpa using (va_ (va_ (va_ (va_ (va_ (va_ HG.out 0 (.string id)) 1 (.int .i64 p5)) 2 (.int .i64 d5)) 3 (.slice none 0 0)) 4 (.slice none 0 0)) 5 (.slice none 0 0))⟩; have HBF : Az (Below w.heap.size w ((((((w6.setCell ⟨g, 0, none⟩ (.string id)).setCell ⟨g, 1, none⟩ (.int .i64 p5)).setCell ⟨g, 2, none⟩ (.int .i64 d5)).setCell ⟨g, 3, none⟩ (.slice none 0 0)).setCell ⟨g, 4, none⟩ (.slice none 0 0)).setCell ⟨g, 5, none⟩ (.slice none 0 0))) := ⟨(Below.setCell (p := ⟨g, 5, none⟩) (Below.setCell (p := ⟨g, 4, none⟩) (Below.setCell (p := ⟨g, 3, none⟩) (Below.setCell (p := ⟨g, 2, none⟩) (Below.setCell (p := ⟨g, 1, none⟩) (Below.setCell (p := ⟨g, 0, none⟩) HW6.out HGE.out (.string id)) HGE.out (.int .i64 p5)) HGE.out (.int .i64 d5)) HGE.out (.slice none 0 0)) HGE.out (.slice none 0 0)) HGE.out (.slice none 0 0))⟩; have HSF : Az (((((((w6.setCell ⟨g, 0, none⟩ (.string id)).setCell ⟨g, 1, none⟩ (.int .i64 p5)).setCell ⟨g, 2, none⟩ (.int .i64 d5)).setCell ⟨g, 3, none⟩ (.slice none 0 0)).setCell ⟨g, 4, none⟩ (.slice none 0 0)).setCell ⟨g, 5, none⟩ (.slice none 0 0)).heap[w.heap.size + 1]? = some (.cells #[.string ⟨#[]⟩, .int .i64 0, .int .i64 0, .slice none 0 0, .slice none 0 0, .slice none 0 0] 44 (0, 0))) := ⟨((heap_setCell_other (((((w6.setCell ⟨g, 0, none⟩ (.string id)).setCell ⟨g, 1, none⟩ (.int .i64 p5)).setCell ⟨g, 2, none⟩ (.int .i64 d5)).setCell ⟨g, 3, none⟩ (.slice none 0 0)).setCell ⟨g, 4, none⟩ (.slice none 0 0)) ⟨g, 5, none⟩ (w.heap.size + 1) (.slice none 0 0) (by have := HZ.out; show w.heap.size + 1 ≠ g; omega)).trans ((heap_setCell_other ((((w6.setCell ⟨g, 0, none⟩ (.string id)).setCell ⟨g, 1, none⟩ (.int .i64 p5)).setCell ⟨g, 2, none⟩ (.int .i64 d5)).setCell ⟨g, 3, none⟩ (.slice none 0 0)) ⟨g, 4, none⟩ (w.heap.size + 1) (.slice none 0 0) (by have := HZ.out; show w.heap.size + 1 ≠ g; omega)).trans ((heap_setCell_other (((w6.setCell ⟨g, 0, none⟩ (.string id)).setCell ⟨g, 1, none⟩ (.int .i64 p5)).setCell ⟨g, 2, none⟩ (.int .i64 d5)) ⟨g, 3, none⟩ (w.heap.size + 1) (.slice none 0 0) (by have := HZ.out; show w.heap.size + 1 ≠ g; omega)).trans ((heap_setCell_other ((w6.setCell ⟨g, 0, none⟩ (.string id)).setCell ⟨g, 1, none⟩ (.int .i64 p5)) ⟨g, 2, none⟩ (w.heap.size + 1) (.int .i64 d5) (by have := HZ.out; show w.heap.size + 1 ≠ g; omega)).trans ((heap_setCell_other (w6.setCell ⟨g, 0, none⟩ (.string id)) ⟨g, 1, none⟩ (w.heap.size + 1) (.int .i64 p5) (by have := HZ.out; show w.heap.size + 1 ≠ g; omega)).trans ((heap_setCell_other w6 ⟨g, 0, none⟩ (w.heap.size + 1) (.string id) (by have := HZ.out; show w.heap.size + 1 ≠ g; omega)).trans hHeld.2.2.2.1.out))))))⟩
  generalize ((((((w6.setCell ⟨g, 0, none⟩ (.string id)).setCell ⟨g, 1, none⟩ (.int .i64 p5)).setCell ⟨g, 2, none⟩ (.int .i64 d5)).setCell ⟨g, 3, none⟩ (.slice none 0 0)).setCell ⟨g, 4, none⟩ (.slice none 0 0)).setCell ⟨g, 5, none⟩ (.slice none 0 0)) = w7 at *; clear hHeld
  go_wp2_with fail
  go_meet
  case rel => exact ⟨g, rfl, HZ, HF, HSF, HBF⟩
 obtain ⟨g, rfl, HZ, HG, HSR, HBW⟩ := hcut
 clear h0 h1 h2 HP2 HS2 HB2 H1 H2 HRU
 have HE0 : Az (lexP l k = gh_ l (k + 1) k []) := ⟨rfl⟩
 have HY0 : Az (Kd.R k46 46 wc w.heap.size (fun q => g < q) (.slice none 0 0) []) := ⟨Kd.R_nil _ _ _ _ _⟩
 have HT0 : Az (Kd.R k52 52 wc w.heap.size (fun q => g < q) (.slice none 0 0) []) := ⟨Kd.R_nil _ _ _ _ _⟩
 go_wp2_with fail
 go_loopg [6] (k + 1) (fun gg s6 wr => ∃ (a : Int) (n : Nat) (ys : List S46) (A3 : Option Addr) (c3 : Nat) (A5 : Option Addr) (c5 : Nat), s6 = .int .i64 a ∧ (a + 1).toNat ≤ gg ∧ a < n ∧ a < l.length ∧ Az ((ys.length : Int) + 5 * (a + 1) ≤ 5 * l.length) ∧ Az (ys.length ≤ 5 * l.length) ∧ Az (lexP l k = gh_ l n a ys) ∧ Az (wr.heap[g]? = some (.cells #[.string id, .int .i64 p5, .int .i64 d5, .slice A3 ys.length c3, .slice none 0 0, .slice A5 0 c5] 44 (0, 0))) ∧ Az (wr.heap[w.heap.size + 1]? = some (.cells #[.string ⟨#[]⟩, .int .i64 0, .int .i64 0, .slice none 0 0, .slice none 0 0, .slice none 0 0] 44 (0, 0))) ∧ Az (Kd.R k46 46 wr w.heap.size (fun q => g < q) (.slice A3 ys.length c3) ys) ∧ Az (Kd.R k52 52 wr w.heap.size (fun q => g < q) (.slice A5 0 c5) []) ∧ Az (Below w.heap.size w wr))
 case atStart => exact ⟨k, k + 1, [], none, 0, none, 0, rfl, by omega, by omega, by omega, ⟨by have := HLL.out; simp; omega⟩, ⟨by simp⟩, HE0, HG, HSR, HY0, HT0, HBW⟩
 clear HE0 HY0 HT0 HG HSR HBW
 obtain ⟨a, n, ys, A3, c3, A5, c5, rfl, hgg, han, hal, HYL, HYM, HE, HG, HSR, HY, HT, HBW⟩ := hrel
 have hw1 : wrap64 ((l.length : Int) - 1) = (l.length : Int) - 1 := by have := HLL.out; rw [wrap64]; omega
 have HWI := aM_ (af_ a 0 ((l.length : Int) - 1))
 cases hin : kb_ a 0 ((l.length : Int) - 1) with
 | false =>
  rw [hin] at HWI
  have HG0 : Az (lexP l k = ys) := ⟨by
   rw [HE.out]
   cases n with
   | zero => rfl
   | succ n => rw [gh_, if_neg (by rw [hin]; decide)]⟩
  have HYB : Az (ys.length * 32 ≤ 140737488355328) := ⟨by have h1 := HYM.out; have h2 := HLL.out; omega⟩; clear hin HE
  go_wp2_with fail
  refine (HWI.out _).mono ?_; rintro e W5 ⟨rfl, hB⟩; replace HG := aM_ (oa_ HG.out hB); replace HSR := aM_ (oa_ HSR.out hB); replace HY := aM_ (Kd.R_below HY.out hB); replace HT := aM_ (Kd.R_below HT.out hB); have HW5 : Az (Below w.heap.size w W5) := ⟨ga_ HBW.out hB⟩; have hg3 : W5.cell? ⟨g, 3, none⟩ = some (.slice A3 ys.length c3) := ba_ HG.out 3; have hg5 : W5.cell? ⟨g, 5, none⟩ = some (.slice A5 0 c5) := ba_ HG.out 5; clear hB HWI HBW
  go_wp2_with fail
  refine yd_ (n := 10) (S := fun w' => w'.cell? ⟨g, 3, none⟩ = some (.slice A3 ys.length c3) ∧ w'.cell? ⟨g, 5, none⟩ = some (.slice A5 0 c5) ∧ Az (Below W5.heap.size W5 w')) (ds := [7, 9]) (f_ 10 0) (by kernel_rfl) rfl rfl ⟨hg3, hg5, ⟨ca_ (Below.refl _ _) 1⟩⟩ (fun hHeld => ?_); generalize W5.drew = w3 at *; refine pU_ 0 59 ?_ (f_ 10 1) rfl rfl (by kernel_rfl) (fun _ _ _ h => h) (by rfl) ?_ ?_ ?_ ?_; rotate_left
  ·intro w'
   go_simp; try with_reducible rfl
  rotate_left
  ·simp only [Act.put, s1_, s2_, s3_, ia_, ja_]
   rfl
  refine tA_ 1 60 ?_ (f_ 10 2) rfl rfl (by kernel_rfl) (fun _ _ _ h => h) (by rfl) ?_ hHeld ?_ ?_ ?_; rotate_left
  ·rintro w' ⟨s0, s1, s2⟩
   go_simp; try with_reducible rfl
  rotate_left
  ·simp only [Act.put, s1_, s2_, s3_, ia_, ja_]
   rfl
  refine pU_ 3 62 ?_ #[true, true, false, true, false, false, false, false, false, false] rfl rfl (by kernel_rfl) (fun _ _ _ h => h) (by rfl) ?_ ?_ ?_ ?_; rotate_left
  ·intro w'
   go_simp; try with_reducible rfl
  rotate_left
  ·simp only [Act.put, s1_, s2_, s3_, ia_, ja_]
   rfl
  refine tA_ 4 63 ?_ #[true, true, false, true, true, false, false, false, false, false] rfl rfl (by kernel_rfl) (fun _ _ _ h => h) (by rfl) ?_ hHeld ?_ ?_ ?_; rotate_left
  ·rintro w' ⟨s0, s1, s2⟩
   go_simp; try with_reducible rfl
  rotate_left
  ·simp only [Act.put, s1_, s2_, s3_, ia_, ja_]
   rfl
  refine one_ (i := 2) (N := some 61) (f_ 10 5) rfl rfl (by kernel_rfl) (by decide) (fun K hK => ?_); refine xb_ Tryz.func65 (by kernel_rfl) rfl #[.slice A3 ys.length c3] (by rfl) rfl rfl (by (try simp only [List.map_toArray, List.map_cons, List.map_nil]); rfl) ?_
  have HSZ : Az (g + 1 ≤ w3.heap.size ∧ w.heap.size ≤ w3.heap.size) := ⟨Nat.le_trans (eb_ HG.out) hHeld.2.2.out.size, Nat.le_trans HW5.out.size hHeld.2.2.out.size⟩; refine (cloneE A3 c3 ys w3 (g + 1) w.heap.size (Kd.R_below HY.out hHeld.2.2.out) HSZ.out.1 HSZ.out.2 HYB.out).mono ?_; rintro e w4 ⟨v3, rfl, hR, hB⟩; have HR3 := aM_ hR; refine ⟨_, rfl, ?_⟩; refine hK.out _ _ ⟨ha_ hB hHeld.1, ha_ hB hHeld.2.1, ⟨ga_ hHeld.2.2.out hB⟩⟩ (fun hHeld => ?_); clear hK K; refine wa_ (a' := ?_) ?_ ?_; rotate_left
  ·show Act.put _ (some 61) _ = _
   simp only [Act.put, s1_, s2_, s3_, ia_, ja_]; rfl
  refine pU_ 6 65 ?_ #[true, true, true, true, true, false, true, false, false, false] rfl rfl (by kernel_rfl) (fun _ _ _ h => h) (by rfl) ?_ ?_ ?_ ?_; rotate_left
  ·intro w'
   go_simp; try with_reducible rfl
  rotate_left
  ·simp only [Act.put, s1_, s2_, s3_, ia_, ja_]
   rfl
  refine one_ (i := 5) (N := some 64) (f_ 10 7) rfl rfl (by kernel_rfl) (by decide) (fun K hK => ?_); refine xb_ Tryz.func66 (by kernel_rfl) rfl #[.slice A5 0 c5] (by rfl) rfl rfl (by (try simp only [List.map_toArray, List.map_cons, List.map_nil]); rfl) ?_
  have HSZ4 : Az (g + 1 ≤ w4.heap.size ∧ w.heap.size ≤ w4.heap.size) := ⟨Nat.le_trans (eb_ HG.out) hHeld.2.2.out.size, Nat.le_trans HW5.out.size hHeld.2.2.out.size⟩; refine (cloneS A5 c5 [] w4 (g + 1) w.heap.size (Kd.R_below HT.out hHeld.2.2.out) HSZ4.out.1 HSZ4.out.2 (by simp)).mono ?_; rintro e w5 ⟨v5, rfl, hR, hB⟩; have HR5 := aM_ hR; have HR4 := aM_ (Kd.R_below HR3.out hB); have HG5 := aM_ (oa_ HG.out (ga_ hHeld.2.2.out hB)); obtain ⟨B3, e3, hs3⟩ := Kd.R_slice HR4.out; obtain ⟨B5, e5, hs5⟩ := Kd.R_slice HR5.out; subst hs3; subst hs5; refine ⟨_, rfl, ?_⟩; refine hK.out _ _ ⟨ha_ hB hHeld.1, ha_ hB hHeld.2.1, ⟨ga_ hHeld.2.2.out hB⟩⟩ (fun hHeld => ?_); clear hK K; refine wa_ (a' := ?_) ?_ ?_; rotate_left
  ·show Act.put _ (some 64) _ = _
   simp only [Act.put, s1_, s2_, s3_, ia_, ja_]; rfl
  refine xh_ (i := 7) (N := none) (f_ 10 8) rfl rfl (by kernel_rfl) (by decide) (fun K hK => ?_); have hz3 := hHeld.1; have hz5 := hHeld.2.1; have hy3 := da_ HG5.out 3; have hy5 := da_ HG5.out 5; refine qh_ (w1 := ?_) (by rfl) rfl ?_ ?_; rotate_left
  ·go_simp
   rfl
  refine hK.out _ _ ?_; clear hK K; refine pU_ 8 66 ?_ (f_ 10 9) rfl rfl (by kernel_rfl) (fun _ _ _ h => h) (by rfl) ?_ ?_ ?_ ?_; rotate_left
  ·intro w'
   go_simp; try with_reducible rfl
  rotate_left
  ·simp only [Act.put, s1_, s2_, s3_, ia_, ja_]
   rfl
  refine xh_ (i := 9) (N := none) (f_ 10 10) rfl rfl (by kernel_rfl) (by decide) (fun K hK => ?_); refine qh_ (w1 := ?_) (by rfl) rfl ?_ ?_; rotate_left
  ·go_simp
   rfl
  refine hK.out _ _ ?_; clear hK K; refine ge_ (by kernel_rfl) ?_; have HB5 := hHeld.2.2; have HGE : Az (w.heap.size ≤ g ∧ w.heap.size + 1 ≠ g) := ⟨by have := HZ.out; omega⟩; have HG7 : Az (((w5.setCell ⟨g, 3, none⟩ (.slice B3 ys.length e3)).setCell ⟨g, 5, none⟩ (.slice B5 0 e5)).heap[g]? = some (.cells #[.string id, .int .i64 p5, .int .i64 d5, .slice B3 ys.length e3, .slice none 0 0, .slice B5 0 e5] 44 (0, 0))) := ⟨by simpa using va_ (va_ HG5.out 3 (.slice B3 ys.length e3)) 5 (.slice B5 0 e5)⟩; have HSR7 : Az (((w5.setCell ⟨g, 3, none⟩ (.slice B3 ys.length e3)).setCell ⟨g, 5, none⟩ (.slice B5 0 e5)).heap[w.heap.size + 1]? = some (.cells #[.string ⟨#[]⟩, .int .i64 0, .int .i64 0, .slice none 0 0, .slice none 0 0, .slice none 0 0] 44 (0, 0))) := ⟨(heap_setCell_other _ ⟨g, 5, none⟩ _ _ HGE.out.2).trans ((heap_setCell_other w5 ⟨g, 3, none⟩ _ _ HGE.out.2).trans (oa_ HSR.out HB5.out))⟩; have HW7 : Az (Below w.heap.size w ((w5.setCell ⟨g, 3, none⟩ (.slice B3 ys.length e3)).setCell ⟨g, 5, none⟩ (.slice B5 0 e5))) := ⟨Below.setCell (p := ⟨g, 5, none⟩) (Below.setCell (p := ⟨g, 3, none⟩) (ga_ HW5.out HB5.out) HGE.out.1 _) HGE.out.1 _⟩; have HL7 := aM_ (Kd.R_far (Kd.R_far HR4.out (p := ⟨g, 3, none⟩) (fun q hq => Nat.ne_of_gt hq) (.slice B3 ys.length e3)) (p := ⟨g, 5, none⟩) (fun q hq => Nat.ne_of_gt hq) (.slice B5 0 e5)); have HT7 := aM_ (Kd.R_far (Kd.R_far HR5.out (p := ⟨g, 3, none⟩) (fun q hq => Nat.ne_of_gt hq) (.slice B3 ys.length e3)) (p := ⟨g, 5, none⟩) (fun q hq => Nat.ne_of_gt hq) (.slice B5 0 e5))
  change Az (Kd.R _ _ ((w5.setCell ⟨g, 3, none⟩ (.slice B3 ys.length e3)).setCell ⟨g, 5, none⟩ (.slice B5 0 e5)) _ _ (.slice B5 0 e5) []) at HT7
  generalize ((w5.setCell ⟨g, 3, none⟩ (.slice B3 ys.length e3)).setCell ⟨g, 5, none⟩ (.slice B5 0 e5)) = w7 at *; clear hHeld HB5 HG5 HR3 HR4 HR5 HG HSR HY HT HW5 hg3 hg5 hz3 hz5 hy3 hy5; have ha0 := ba_ HG7.out 0; have hb0 := ba_ HSR7.out 0; have hf0 := da_ HSR7.out 0; have ha1 := ba_ HG7.out 1; have hb1 := ba_ HSR7.out 1; have hf1 := da_ HSR7.out 1; have ha2 := ba_ HG7.out 2; have hb2 := ba_ HSR7.out 2; have hf2 := da_ HSR7.out 2; have ha3 := ba_ HG7.out 3; have hb3 := ba_ HSR7.out 3; have hf3 := da_ HSR7.out 3; have ha4 := ba_ HG7.out 4; have hb4 := ba_ HSR7.out 4; have hf4 := da_ HSR7.out 4; have ha5 := ba_ HG7.out 5; have hb5 := ba_ HSR7.out 5; have hf5 := da_ HSR7.out 5; have hu1 := Tryz.underlying44
  go_wp2
  have hb7 : ((((((w7.setCell ⟨w.heap.size + 1, 0, none⟩ (.string id)).setCell ⟨w.heap.size + 1, 1, none⟩ (.int .i64 p5)).setCell ⟨w.heap.size + 1, 2, none⟩ (.int .i64 d5)).setCell ⟨w.heap.size + 1, 3, none⟩ (.slice B3 ys.length e3)).setCell ⟨w.heap.size + 1, 4, none⟩ (.slice none 0 0)).setCell ⟨w.heap.size + 1, 5, none⟩ (.slice B5 0 e5)).heap[w.heap.size + 1]? = some (.cells #[.string id, .int .i64 p5, .int .i64 d5, .slice B3 ys.length e3, .slice none 0 0, .slice B5 0 e5] 44 (0, 0)) := by simpa using (va_ (va_ (va_ (va_ (va_ (va_ HSR7.out 0 (.string id)) 1 (.int .i64 p5)) 2 (.int .i64 d5)) 3 (.slice B3 ys.length e3)) 4 (.slice none 0 0)) 5 (.slice B5 0 e5))
  refine bodyPost_ret (zl_ rfl _ _ (w.heap.size + 1) 44 #[.string id, .int .i64 p5, .int .i64 d5, .slice B3 ys.length e3, .slice none 0 0, .slice B5 0 e5] (0, 0) _ rfl hb7 Tryz.underlying44 rfl (by kernel_rfl)) rfl ?_; rw [HG0.out]
  exact ⟨_, _, _, rfl, Kd.R_mono (Kd.R_far (Kd.R_far (Kd.R_far (Kd.R_far (Kd.R_far (Kd.R_far HL7.out (p := ⟨w.heap.size + 1, 0, none⟩) (fun q hq => by have := HZ.out; show q ≠ w.heap.size + 1; omega) (.string id)) (p := ⟨w.heap.size + 1, 1, none⟩) (fun q hq => by have := HZ.out; show q ≠ w.heap.size + 1; omega) (.int .i64 p5)) (p := ⟨w.heap.size + 1, 2, none⟩) (fun q hq => by have := HZ.out; show q ≠ w.heap.size + 1; omega) (.int .i64 d5)) (p := ⟨w.heap.size + 1, 3, none⟩) (fun q hq => by have := HZ.out; show q ≠ w.heap.size + 1; omega) (.slice B3 ys.length e3)) (p := ⟨w.heap.size + 1, 4, none⟩) (fun q hq => by have := HZ.out; show q ≠ w.heap.size + 1; omega) (.slice none 0 0)) (p := ⟨w.heap.size + 1, 5, none⟩) (fun q hq => by have := HZ.out; show q ≠ w.heap.size + 1; omega) (.slice B5 0 e5)) (fun _ _ => trivial), Kd.S_nil _ _ _ _ _, Kd.S_of_none (Kd.R_mono (Kd.R_far (Kd.R_far (Kd.R_far (Kd.R_far (Kd.R_far (Kd.R_far HT7.out (p := ⟨w.heap.size + 1, 0, none⟩) (fun q hq => by have := HZ.out; show q ≠ w.heap.size + 1; omega) (.string id)) (p := ⟨w.heap.size + 1, 1, none⟩) (fun q hq => by have := HZ.out; show q ≠ w.heap.size + 1; omega) (.int .i64 p5)) (p := ⟨w.heap.size + 1, 2, none⟩) (fun q hq => by have := HZ.out; show q ≠ w.heap.size + 1; omega) (.int .i64 d5)) (p := ⟨w.heap.size + 1, 3, none⟩) (fun q hq => by have := HZ.out; show q ≠ w.heap.size + 1; omega) (.slice B3 ys.length e3)) (p := ⟨w.heap.size + 1, 4, none⟩) (fun q hq => by have := HZ.out; show q ≠ w.heap.size + 1; omega) (.slice none 0 0)) (p := ⟨w.heap.size + 1, 5, none⟩) (fun q hq => by have := HZ.out; show q ≠ w.heap.size + 1; omega) (.slice B5 0 e5)) (fun _ _ => trivial)), (Below.setCell (p := ⟨w.heap.size + 1, 5, none⟩) (Below.setCell (p := ⟨w.heap.size + 1, 4, none⟩) (Below.setCell (p := ⟨w.heap.size + 1, 3, none⟩) (Below.setCell (p := ⟨w.heap.size + 1, 2, none⟩) (Below.setCell (p := ⟨w.heap.size + 1, 1, none⟩) (Below.setCell (p := ⟨w.heap.size + 1, 0, none⟩) HW7.out (Nat.le_succ _) (.string id)) (Nat.le_succ _) (.int .i64 p5)) (Nat.le_succ _) (.int .i64 d5)) (Nat.le_succ _) (.slice B3 ys.length e3)) (Nat.le_succ _) (.slice none 0 0)) (Nat.le_succ _) (.slice B5 0 e5))⟩
 | true =>
  rw [hin] at HWI
  have hr2 : 0 ≤ a ∧ a ≤ (l.length : Int) - 1 := by
   unfold kb_ at hin
   simpa using hin
  obtain ⟨j, rfl⟩ : ∃ j : Nat, a = (j : Int) := ⟨a.toNat, by omega⟩; have hj : j < l.length := by omega
  have hjz : (j : Int) < (l.length : Int) := by omega
  obtain ⟨n, rfl⟩ : ∃ m, n = m + 1 := ⟨n - 1, by omega⟩; have HE1 : Az (lexP l k = gh_ l n (te_ l j) ((jb_ l (j : Int)).f3 ++ ys)) := ⟨by rw [HE.out, gh_, if_pos hin]⟩; have HPL1 := aM_ (bm_ l (j : Int) (by omega))
  have hy : jb_ l (j : Int) = l[j] := by
   show l.getD (j : Int).toNat _ = _; rw [Int.toNat_natCast, List.getD_eq_getElem?_getD, List.getElem?_eq_getElem hj]; rfl
  have hx3 : (jb_ l (j : Int)).f3.length ≤ 5 := by rw [hy]; exact HLX.out _ (List.getElem_mem hj)
  have hx5 : (jb_ l (j : Int)).f5 = [] := by rw [hy]; exact (HPL.out _ (List.getElem_mem hj)).2
  obtain ⟨ad', B3, d3, B4, d4, B5, d5', hA, h0, h1, h2, h3, h4, h5, l3, g3, l4, g4, l5, g5⟩ := rg_ HR.out (j : Int) (by omega) hjz; injection hA with hA; subst hA; rw [Int.toNat_natCast] at h3 h5; rw [hx5] at h5; generalize (jb_ l (j : Int)).f3 = lx at *; have HLC := aM_ g3; have H3 := aM_ h3; have H5 : Az (w.cell? ⟨(ad.add (j * 6)).block, (ad.add (j * 6)).off + 5, none⟩ = some (.slice B5 0 d5')) := ⟨h5⟩; have HLX3 := aM_ hx3; have HPW := aM_ (fun W (hB : Below w.heap.size w W) => iq_ (some ad) c l (j : Int) W (Kd.C_below HR.out hB) HC.out (by omega) hjz); clear hin HE hr2 h0 h1 h2 h3 h4 h5 l3 g3 l4 g4 l5 g5 hy hx3 hx5
  go_wp2_with fail
  refine (HWI.out _).mono ?_; rintro e W5 ⟨rfl, hB⟩; replace HG := aM_ (oa_ HG.out hB); replace HSR := aM_ (oa_ HSR.out hB); replace HY := aM_ (Kd.R_below HY.out hB); replace HT := aM_ (Kd.R_below HT.out hB); have HW5 : Az (Below w.heap.size w W5) := ⟨ga_ HBW.out hB⟩; have HLY : Az (lx.length + ys.length ≤ 1000000) := ⟨by have := HYL.out; have := HLX3.out; have := HLL.out; omega⟩; have hl3 := ha_ HW5.out H3.out; have hg3 : W5.cell? ⟨g, 3, none⟩ = some (.slice A3 ys.length c3) := ba_ HG.out 3; clear hB HWI HBW
  go_wp2_with fail
  refine yd_ (n := 11) (S := fun w' => w'.cell? ⟨(ad.add (j * 6)).block, (ad.add (j * 6)).off + 3, none⟩ = some (.slice B3 lx.length d3) ∧ w'.cell? ⟨g, 3, none⟩ = some (.slice A3 ys.length c3) ∧ Az (Below W5.heap.size W5 w')) (ds := [10]) (f_ 11 0) (by kernel_rfl) rfl rfl ⟨hl3, hg3, ⟨ca_ (Below.refl _ _) 1⟩⟩ (fun hHeld => ?_); generalize W5.drew = w3 at *; refine pU_ 0 38 ?_ (f_ 11 1) rfl rfl (by kernel_rfl) (fun _ _ _ h => h) (by rfl) ?_ ?_ ?_ ?_; rotate_left
  ·intro w'
   go_simp; try with_reducible rfl
  rotate_left
  ·simp only [Act.put, s1_, s2_, s3_, ia_, ja_]
   rfl
  refine pU_ 1 39 ?_ (f_ 11 2) rfl rfl (by kernel_rfl) (fun _ _ _ h => h) (by rfl) ?_ ?_ ?_ ?_; rotate_left
  ·intro w'
   go_simp; try with_reducible rfl
  rotate_left
  ·simp only [Act.put, s1_, s2_, s3_, ia_, ja_]
   rfl
  refine pU_ 2 40 ?_ (f_ 11 3) rfl rfl (by kernel_rfl) (fun _ _ _ h => h) (by rfl) ?_ ?_ ?_ ?_; rotate_left
  ·intro w'
   go_simp; try with_reducible rfl
  rotate_left
  ·simp only [Act.put, s1_, s2_, s3_, ia_, ja_]
   rfl
  refine pU_ 3 41 ?_ (f_ 11 4) rfl rfl (by kernel_rfl) (fun _ _ _ h => h) (by rfl) ?_ ?_ ?_ ?_; rotate_left
  ·intro w'
   go_simp; try with_reducible rfl
  rotate_left
  ·simp only [Act.put, s1_, s2_, s3_, ia_, ja_]
   rfl
  refine tA_ 4 42 ?_ (f_ 11 5) rfl rfl (by kernel_rfl) (fun _ _ _ h => h) (by rfl) ?_ hHeld ?_ ?_ ?_; rotate_left
  ·rintro w' ⟨s0, s1, s2⟩
   go_simp; try with_reducible rfl
  rotate_left
  ·simp only [Act.put, s1_, s2_, s3_, ia_, ja_]
   rfl
  refine pU_ 5 43 ?_ (f_ 11 6) rfl rfl (by kernel_rfl) (fun _ _ _ h => h) (by rfl) ?_ ?_ ?_ ?_; rotate_left
  ·intro w'
   go_simp; try with_reducible rfl
  rotate_left
  ·simp only [Act.put, s1_, s2_, s3_, ia_, ja_]
   rfl
  refine tA_ 6 44 ?_ (f_ 11 7) rfl rfl (by kernel_rfl) (fun _ _ _ h => h) (by rfl) ?_ hHeld ?_ ?_ ?_; rotate_left
  ·rintro w' ⟨s0, s1, s2⟩
   go_simp; try with_reducible rfl
  rotate_left
  ·simp only [Act.put, s1_, s2_, s3_, ia_, ja_]
   rfl
  refine one_ (i := 7) (N := some 45) (f_ 11 8) rfl rfl (by kernel_rfl) (by decide) (fun K hK => ?_); refine ad_ (w1 := ?_) (v := ?_) (by rfl) rfl ?_ ?_; rotate_left 2
  ·go_simp
   constructor
   ·rfl
   rfl
  have hB := aa_ (Below.refl w3.heap.size w3) (.cells #[.slice B3 lx.length d3, .slice A3 ys.length c3] 40); have HCO := aM_ (jp_ w3.heap.size B3 A3 d3 c3 lx ys (w3.alloc (.cells #[.slice B3 lx.length d3, .slice A3 ys.length c3] 40)) (ba_ (ra_ w3 _) 0) (ba_ (ra_ w3 _) 1) (Kd.C_below HLC.out (ga_ HW5.out (ga_ hHeld.2.2.out hB))) (Kd.C_below (Kd.R_reads' HY.out).2.2 (ga_ hHeld.2.2.out hB)) HLY.out); have HSZ : Az (g < (w3.alloc (.cells #[.slice B3 lx.length d3, .slice A3 ys.length c3] 40)).heap.size) := ⟨Nat.lt_of_lt_of_le (eb_ HG.out) (ga_ hHeld.2.2.out hB).size⟩; refine hK.out _ _ ⟨ha_ hB hHeld.1, ha_ hB hHeld.2.1, ⟨ga_ hHeld.2.2.out hB⟩⟩ (fun hHeld => ?_); clear hK K; generalize w3.heap.size = g3 at *; generalize w3.alloc (.cells #[.slice B3 lx.length d3, .slice A3 ys.length c3] 40) = w4 at *; have hK := trivial; have K := trivial; clear hK K; refine wa_ (a' := ?_) ?_ ?_; rotate_left
  ·show Act.put _ (some 45) _ = _
   simp only [Act.put, s1_, s2_, s3_, ia_, ja_]; rfl
  refine one_ (i := 8) (N := some 46) (f_ 11 9) rfl rfl (by kernel_rfl) (by decide) (fun K hK => ?_); refine xb_ Tryz.func61 (by kernel_rfl) rfl #[.slice (some ⟨g3, 0, none⟩) 2 2] (by rfl) rfl rfl (by (try simp only [List.map_toArray, List.map_cons, List.map_nil]); rfl) ?_
  refine HCO.out.mono ?_; rintro e w5 ⟨v7, rfl, hR, hB⟩; obtain ⟨A7, c7, hs7⟩ := Kd.R_slice hR; subst hs7; have HZL : Az ((lx ++ ys).length = lx.length + ys.length) := ⟨List.length_append⟩; generalize lx ++ ys = zs at *; have HRC := aM_ (Kd.R_mono (Kd.R_lower hR (Nat.le_trans HW5.out.size hHeld.2.2.out.size)) (ok' := fun q => g < q) (fun q hq => Nat.lt_of_lt_of_le HSZ.out hq)); have HG5 := aM_ (oa_ HG.out (ga_ hHeld.2.2.out hB)); refine ⟨_, rfl, ?_⟩; refine hK.out _ _ ⟨ha_ hB hHeld.1, ha_ hB hHeld.2.1, ⟨ga_ hHeld.2.2.out hB⟩⟩ (fun hHeld => ?_); clear hK K; refine wa_ (a' := ?_) ?_ ?_; rotate_left
  ·show Act.put _ (some 46) _ = _
   simp only [Act.put, s1_, s2_, s3_, ia_, ja_]; rfl
  refine pU_ 9 47 ?_ (f_ 11 10) rfl rfl (by kernel_rfl) (fun _ _ _ h => h) (by rfl) ?_ ?_ ?_ ?_; rotate_left
  ·intro w'
   go_simp; try with_reducible rfl
  rotate_left
  ·simp only [Act.put, s1_, s2_, s3_, ia_, ja_]
   rfl
  refine xh_ (i := 10) (N := none) (f_ 11 11) rfl rfl (by kernel_rfl) (by decide) (fun K hK => ?_); have hz := hHeld.2.1; have hy := da_ HG5.out 3; refine qh_ (w1 := ?_) (by rfl) rfl ?_ ?_; rotate_left
  ·go_simp
   rfl
  refine hK.out _ _ ?_; clear hK K; refine ge_ (by kernel_rfl) ?_; have HG6 : Az ((w5.setCell ⟨g, 3, none⟩ (.slice A7 zs.length c7)).heap[g]? = some (.cells #[.string id, .int .i64 p5, .int .i64 d5, .slice A7 zs.length c7, .slice none 0 0, .slice A5 0 c5] 44 (0, 0))) := ⟨by simpa using va_ HG5.out 3 (.slice A7 zs.length c7)⟩; have HB5 := hHeld.2.2; have HGE : Az (w.heap.size ≤ g ∧ w.heap.size + 1 ≠ g) := ⟨by have := HZ.out; omega⟩; have HSR6 : Az ((w5.setCell ⟨g, 3, none⟩ (.slice A7 zs.length c7)).heap[w.heap.size + 1]? = some (.cells #[.string ⟨#[]⟩, .int .i64 0, .int .i64 0, .slice none 0 0, .slice none 0 0, .slice none 0 0] 44 (0, 0))) := ⟨(heap_setCell_other w5 ⟨g, 3, none⟩ _ _ HGE.out.2).trans (oa_ HSR.out HB5.out)⟩; have HW6 : Az (Below w.heap.size w (w5.setCell ⟨g, 3, none⟩ (.slice A7 zs.length c7))) := ⟨Below.setCell (p := ⟨g, 3, none⟩) (ga_ HW5.out HB5.out) HGE.out.1 _⟩; have HY6 := aM_ (Kd.R_far HRC.out (p := ⟨g, 3, none⟩) (fun q hq => Nat.ne_of_gt hq) (.slice A7 zs.length c7)); have HT6 := aM_ (Kd.R_far (Kd.R_below HT.out HB5.out) (p := ⟨g, 3, none⟩) (fun q hq => Nat.ne_of_gt hq) (.slice A7 zs.length c7)); generalize w5.setCell ⟨g, 3, none⟩ (.slice A7 zs.length c7) = W6 at *; clear hHeld HB5 HG5 HRC HCO HSZ HG HSR HY HT HW5 hl3 hg3 hz hy; have HG := HG6; have hl5 := ha_ HW6.out H5.out; have hg5 : W6.cell? ⟨g, 5, none⟩ = some (.slice A5 0 c5) := ba_ HG6.out 5
  go_wp2_with fail
  refine yd_ (n := 12) (S := fun w' => w'.cell? ⟨(ad.add (j * 6)).block, (ad.add (j * 6)).off + 5, none⟩ = some (.slice B5 0 d5') ∧ w'.cell? ⟨g, 5, none⟩ = some (.slice A5 0 c5) ∧ Az (Below W6.heap.size W6 w')) (ds := [11]) (f_ 12 0) (by kernel_rfl) rfl rfl ⟨hl5, hg5, ⟨ca_ (Below.refl _ _) 1⟩⟩ (fun hHeld => ?_); generalize W6.drew = w3 at *; refine pU_ 0 48 ?_ (f_ 12 1) rfl rfl (by kernel_rfl) (fun _ _ _ h => h) (by rfl) ?_ ?_ ?_ ?_; rotate_left
  ·intro w'
   go_simp; try with_reducible rfl
  rotate_left
  ·simp only [Act.put, s1_, s2_, s3_, ia_, ja_]
   rfl
  refine pU_ 1 49 ?_ (f_ 12 2) rfl rfl (by kernel_rfl) (fun _ _ _ h => h) (by rfl) ?_ ?_ ?_ ?_; rotate_left
  ·intro w'
   go_simp; try with_reducible rfl
  rotate_left
  ·simp only [Act.put, s1_, s2_, s3_, ia_, ja_]
   rfl
  refine pU_ 2 50 ?_ (f_ 12 3) rfl rfl (by kernel_rfl) (fun _ _ _ h => h) (by rfl) ?_ ?_ ?_ ?_; rotate_left
  ·intro w'
   go_simp; try with_reducible rfl
  rotate_left
  ·simp only [Act.put, s1_, s2_, s3_, ia_, ja_]
   rfl
  refine pU_ 3 51 ?_ (f_ 12 4) rfl rfl (by kernel_rfl) (fun _ _ _ h => h) (by rfl) ?_ ?_ ?_ ?_; rotate_left
  ·intro w'
   go_simp; try with_reducible rfl
  rotate_left
  ·simp only [Act.put, s1_, s2_, s3_, ia_, ja_]
   rfl
  refine tA_ 4 52 ?_ (f_ 12 5) rfl rfl (by kernel_rfl) (fun _ _ _ h => h) (by rfl) ?_ hHeld ?_ ?_ ?_; rotate_left
  ·rintro w' ⟨s0, s1, s2⟩
   go_simp; try with_reducible rfl
  rotate_left
  ·simp only [Act.put, s1_, s2_, s3_, ia_, ja_]
   rfl
  refine pU_ 6 54 ?_ #[true, true, true, true, true, false, true, false, false, false, false, false] rfl rfl (by kernel_rfl) (fun _ _ _ h => h) (by rfl) ?_ ?_ ?_ ?_; rotate_left
  ·intro w'
   go_simp; try with_reducible rfl
  rotate_left
  ·simp only [Act.put, s1_, s2_, s3_, ia_, ja_]
   rfl
  refine tA_ 7 55 ?_ #[true, true, true, true, true, false, true, true, false, false, false, false] rfl rfl (by kernel_rfl) (fun _ _ _ h => h) (by rfl) ?_ hHeld ?_ ?_ ?_; rotate_left
  ·rintro w' ⟨s0, s1, s2⟩
   go_simp; try with_reducible rfl
  rotate_left
  ·simp only [Act.put, s1_, s2_, s3_, ia_, ja_]
   rfl
  refine one_ (i := 5) (N := some 53) (f_ 12 8) rfl rfl (by kernel_rfl) (by decide) (fun K hK => ?_); refine xb_ Tryz.func63 (by kernel_rfl) rfl #[.slice B5 0 d5', .func (.func 64) #[] #[]] (by rfl) rfl rfl (by (try simp only [List.map_toArray, List.map_cons, List.map_nil]); rfl) ?_
  refine (pq_ B5 d5' _ _).mono ?_; rintro e w4 ⟨rfl, hB⟩; refine ⟨_, rfl, ?_⟩; refine hK.out _ _ ⟨ha_ hB hHeld.1, ha_ hB hHeld.2.1, ⟨ga_ hHeld.2.2.out hB⟩⟩ (fun hHeld => ?_); clear hK K; refine wa_ (a' := ?_) ?_ ?_; rotate_left
  ·show Act.put _ (some 53) _ = _
   simp only [Act.put, s1_, s2_, s3_, ia_, ja_]; rfl
  refine one_ (i := 8) (N := some 56) (f_ 12 9) rfl rfl (by kernel_rfl) (by decide) (fun K hK => ?_); refine ad_ (w1 := ?_) (v := ?_) (by rfl) rfl ?_ ?_; rotate_left 2
  ·go_simp
   constructor
   ·rfl
   rfl
  have hB := aa_ (Below.refl w4.heap.size w4) (.cells #[.slice none 0 0, .slice A5 0 c5] 42); have HCO := aM_ (hr_ w4.heap.size none A5 0 c5 (w4.alloc (.cells #[.slice none 0 0, .slice A5 0 c5] 42)) (ba_ (ra_ w4 _) 0) (ba_ (ra_ w4 _) 1)); have HSZ : Az (g < (w4.alloc (.cells #[.slice none 0 0, .slice A5 0 c5] 42)).heap.size) := ⟨Nat.lt_of_lt_of_le (eb_ HG.out) (ga_ hHeld.2.2.out hB).size⟩; refine hK.out _ _ ⟨ha_ hB hHeld.1, ha_ hB hHeld.2.1, ⟨ga_ hHeld.2.2.out hB⟩⟩ (fun hHeld => ?_); clear hK K; generalize w4.heap.size = g3 at *; generalize w4.alloc (.cells #[.slice none 0 0, .slice A5 0 c5] 42) = w5 at *; have hK := trivial; have K := trivial; clear hK K; refine wa_ (a' := ?_) ?_ ?_; rotate_left
  ·show Act.put _ (some 56) _ = _
   simp only [Act.put, s1_, s2_, s3_, ia_, ja_]; rfl
  refine one_ (i := 9) (N := some 57) (f_ 12 10) rfl rfl (by kernel_rfl) (by decide) (fun K hK => ?_); refine xb_ Tryz.func62 (by kernel_rfl) rfl #[.slice (some ⟨g3, 0, none⟩) 2 2] (by rfl) rfl rfl (by (try simp only [List.map_toArray, List.map_cons, List.map_nil]); rfl) ?_
  refine HCO.out.mono ?_; rintro e w6 ⟨v7, rfl, hR, hB⟩; obtain ⟨A8, c8, hs7⟩ := Kd.R_slice hR; have hs8 : v7 = .slice A8 0 c8 := hs7; subst hs8; have HRS8 := aM_ (Kd.R_mono (Kd.R_lower hR (Nat.le_trans HW6.out.size hHeld.2.2.out.size)) (ok' := fun q => g < q) (fun q hq => Nat.lt_of_lt_of_le HSZ.out hq)); have HG5 := aM_ (oa_ HG.out (ga_ hHeld.2.2.out hB)); clear hs7; refine ⟨_, rfl, ?_⟩; refine hK.out _ _ ⟨ha_ hB hHeld.1, ha_ hB hHeld.2.1, ⟨ga_ hHeld.2.2.out hB⟩⟩ (fun hHeld => ?_); clear hK K; refine wa_ (a' := ?_) ?_ ?_; rotate_left
  ·show Act.put _ (some 57) _ = _
   simp only [Act.put, s1_, s2_, s3_, ia_, ja_]; rfl
  refine pU_ 10 58 ?_ (f_ 12 11) rfl rfl (by kernel_rfl) (fun _ _ _ h => h) (by rfl) ?_ ?_ ?_ ?_; rotate_left
  ·intro w'
   go_simp; try with_reducible rfl
  rotate_left
  ·simp only [Act.put, s1_, s2_, s3_, ia_, ja_]
   rfl
  refine xh_ (i := 11) (N := none) (f_ 12 12) rfl rfl (by kernel_rfl) (by decide) (fun K hK => ?_); have hz := hHeld.2.1; have hy := da_ HG5.out 5; refine qh_ (w1 := ?_) (by rfl) rfl ?_ ?_; rotate_left
  ·go_simp
   rfl
  refine hK.out _ _ ?_; clear hK K; refine ge_ (by kernel_rfl) ?_; have HG7 : Az ((w6.setCell ⟨g, 5, none⟩ (.slice A8 0 c8)).heap[g]? = some (.cells #[.string id, .int .i64 p5, .int .i64 d5, .slice A7 zs.length c7, .slice none 0 0, .slice A8 0 c8] 44 (0, 0))) := ⟨by simpa using va_ HG5.out 5 (.slice A8 0 c8)⟩; have HB5 := hHeld.2.2; have HSR7 : Az ((w6.setCell ⟨g, 5, none⟩ (.slice A8 0 c8)).heap[w.heap.size + 1]? = some (.cells #[.string ⟨#[]⟩, .int .i64 0, .int .i64 0, .slice none 0 0, .slice none 0 0, .slice none 0 0] 44 (0, 0))) := ⟨(heap_setCell_other w6 ⟨g, 5, none⟩ _ _ HGE.out.2).trans (oa_ HSR6.out HB5.out)⟩; have HW7 : Az (Below w.heap.size w (w6.setCell ⟨g, 5, none⟩ (.slice A8 0 c8))) := ⟨Below.setCell (p := ⟨g, 5, none⟩) (ga_ HW6.out HB5.out) HGE.out.1 _⟩; have HY7 := aM_ (Kd.R_far (Kd.R_below HY6.out HB5.out) (p := ⟨g, 5, none⟩) (fun q hq => Nat.ne_of_gt hq) (.slice A8 0 c8)); have HT7 := aM_ (Kd.R_far HRS8.out (p := ⟨g, 5, none⟩) (fun q hq => Nat.ne_of_gt hq) (.slice A8 0 c8)); generalize w6.setCell ⟨g, 5, none⟩ (.slice A8 0 c8) = W7 at *; have HYL7 : Az ((zs.length : Int) + 5 * (te_ l j + 1) ≤ 5 * l.length) := ⟨by rw [HZL.out]; have h1 := HYL.out; have h2 := HLX3.out; have h3 := HPL1.out; omega⟩; have HYM7 : Az (zs.length ≤ 5 * l.length) := ⟨by rw [HZL.out]; have h1 := HYL.out; have h2 := HLX3.out; omega⟩; clear hHeld HB5 HG5 HG6 HSR6 HW6 HY6 HT6 HRS8 HCO HSZ HG hl5 hg5 hz hy HYL
  go_wp2_with fail
  refine (HPW.out _ HW7.out).mono ?_; rintro e W8 ⟨rfl, hB⟩; replace HG7 := aM_ (oa_ HG7.out hB); replace HSR7 := aM_ (oa_ HSR7.out hB); replace HY7 := aM_ (Kd.R_below HY7.out hB); replace HT7 := aM_ (Kd.R_below HT7.out hB); replace HW7 : Az (Below w.heap.size w W8) := ⟨ga_ HW7.out hB⟩; have hp := HPL1.out; clear hB HPW HPL1; generalize te_ l (j : Int) = q at *
  go_wp2
  go_roundg ((q + 1).toNat)
  case measure => omega
  case rel => exact ⟨q, n, zs, A7, c7, A8, c8, rfl, by omega, by omega, by omega, HYL7, HYM7, HE1, HG7, HSR7, HY7, HT7, HW7⟩
end Go.Proofs.YtiocgaekoeekgaaGreat.P
end
section
namespace Go.Proofs.YtiocgaekoeekgaaGreat.P
open Go.RowKit YtiocgaekoeekgaaGreatW.PrintWords YtiocgaekoeekgaaGreatW.PrintLast YtiocgaekoeekgaaGreatW.PrintMore
attribute [local go_sem] vb_ tb_ fc_ dc_ ob_ nb_ ub_ sb_   
set_option linter.unusedVariables false
set_option linter.unusedSimpArgs false
def pl_ (l : List S44) : Bool := l.all fun x => decide (x.f0.size ≤ 1000000000000) && decide (x.f4.length ≤ 1000000)
theorem jk_ {l : List S44} (h : pl_ l = true) : ap_ l := by
 intro x hx
 have := List.all_eq_true.1 h x hx
 simpa using this
theorem kt_ : zc_ [] = true := by
 rw [qf_]
 exact ⟨by simp, rfl, fun x hx => cm_ _ id (fun r hr => by cases hr) x hx⟩
noncomputable def locPl (l : List S44) (i : Nat) (x : S44) : Bool :=
 idP x.f0 && (!((l.take i).any fun y => y.f0.toList == x.f0.toList) && (kb_ x.f1 (-1) ((i : Int) - 1) && (kb_ x.f2 0 3 && (!decide (30 < x.f3.length) && (!decide (20 < x.f5.length) && (x.f3.all cd_ && (x.f5.all le_ && !decide (60 < x.f4.length))))))))
noncomputable def nj_ (l : List S44) : Nat → Nat → Bool
 | 0, _ => true
 | n + 1, i => if locPl l i (jb_ l (i : Int)) = true then nj_ l n (i + 1) else false
noncomputable def vt_ (l : List S44) : Bool := if 10 < l.length then false else nj_ l l.length 0
def plainB (l : List S44) : Bool := l.all fun x => x.f4.isEmpty && x.f5.isEmpty
theorem av_ {l : List S44} (h : plainB l = true) : dj_ l := by
 intro x hx
 have := List.all_eq_true.1 h x hx
 simp only [Bool.and_eq_true, List.isEmpty_iff] at this
 exact this
theorem yk_ {l : List S44} (h : dj_ l) : ∀ n i : Nat, nj_ l n i = se_ l n i
 | 0, _ => rfl
 | n + 1, i => by
  have hr : vf_ l i = [] := wf_ h _ _
  have hl : kf_ l i (jb_ l (i : Int)) = locPl l i (jb_ l (i : Int)) := by
   unfold kf_ locPl; rw [hr, kt_, Bool.and_true]
  rw [nj_, se_, hl, yk_ h n (i + 1)]
theorem xr_ {l : List S44} (h : dj_ l) : vt_ l = ie_ l := by
 unfold vt_ ie_
 rw [yk_ h]
noncomputable def r5_num.l0 : Nat → List Int → Int → Int → Option (List Int)
 | 0, _, _, _ => none
 | k + 1, x0, x1, x5 => if x5 < 8 then (if 0 ≤ (IntKind.u64.wrap (wrap64 (56 - (wrap64 (8 * x5))))) then (if x0.length < 140737488355328 then (r5_num.l0 k (x0 ++ [(shr .i64 x1 (IntKind.u64.wrap (wrap64 (56 - (wrap64 (8 * x5)))))) % 256]) x1 (wrap64 (x5 + 1))) else (none)) else (none)) else (some x0)
noncomputable def r5_num.f (k : Nat) (l0 : List Int) (a1 : Int) : Option (List Int) := r5_num.l0 k l0 a1 0
theorem r5_num.mono_l : ∀ k, (∀ y0 y1 y2, LeO (r5_num.l0 k y0 y1 y2) (r5_num.l0 (k + 1) y0 y1 y2))
 | 0 => fun _ _ _ r h => by simp [r5_num.l0] at h
 | k + 1 => by
  have ih0 := r5_num.mono_l k; intro y0 y1 y2; unfold r5_num.l0
  repeat' first
  | (with_reducible exact ih0 _ _ _)
  | (with_reducible exact LeO.refl _)
  | (with_reducible exact LeO.none _)
  | (with_reducible refine LeO.ite ?_ ?_)
  | (with_reducible refine LeO.bind ?_ (fun _ => ?_))
  | exact ih0 _ _ _
  | exact LeO.none _
  | refine LeO.ite ?_ ?_
  | refine LeO.bind ?_ (fun _ => ?_)
theorem r5_num.mono : ∀ a0 a1 k, LeO (r5_num.f k a0 a1) (r5_num.f (k + 1) a0 a1) := by
 intro a0 a1 k
 have ih0 := r5_num.mono_l k
 unfold r5_num.f
 repeat' first
   | (with_reducible exact ih0 _ _ _)
   | (with_reducible exact LeO.refl _)
   | (with_reducible exact LeO.none _)
   | (with_reducible refine LeO.ite ?_ ?_)
   | (with_reducible refine LeO.bind ?_ (fun _ => ?_))
   | exact ih0 _ _ _
   | exact LeO.none _
   | refine LeO.ite ?_ ?_
   | refine LeO.bind ?_ (fun _ => ?_)
theorem r5_num.calls (k : Nat) (P0_ : Nat → Prop) (u9000_ : Value) (l0 : List Int) (a1 : Int) (r : List Int) (w0 w : World) (hB : Below w0.heap.size w0 w) (ho0 : Kd.R (Kd.int .u8) 5 w w0.heap.size P0_ u9000_ l0) (h : r5_num.f k l0 a1 = some r) :
  Calls Tryz.prog 49 #[u9000_, .int .i64 a1] w fun e w' => ∃ v0_ : Value, e = .returned (v0_) ∧ Kd.R (Kd.int .u8) 5 w' w0.heap.size (fun k_ => (P0_ k_ ∨ w.heap.size ≤ k_)) v0_ r ∧ Below w0.heap.size w0 w' ∧ Kept w w' (fun k_ => P0_ k_) := by
 have HO0 := aM_ (show Kd.R (Kd.int .u8) 5 w w0.heap.size (fun k_ => (P0_ k_ ∨ w.heap.size ≤ k_)) u9000_ l0 from Kd.R_mono ho0 (fun k_ hk => (.inl hk)))
 have HK := aM_ (Kept.refl w (fun k_ => P0_ k_))
 have HW0 := aM_ hB.size
 have HB := aM_ hB
 clear hB
 have H : (r5_num.l0 k l0 a1 0) = some r := h
 clear h
 have H' := aM_ H
 clear H
 go_enter Tryz.func49, Tryz.ntmps49
 go_wp2
 go_loopg [0, 5] k (fun kq v0 v5 w' => ∃ (x0_1 : List Int) (x5_1 : Int), v5 = .int .i64 x5_1 ∧ Az (r5_num.l0 kq x0_1 a1 x5_1 = some r) ∧ Az (kq ≤ k) ∧ Az (Kd.R (Kd.int .u8) 5 w' w0.heap.size (fun k_ => (P0_ k_ ∨ w.heap.size ≤ k_)) v0 x0_1) ∧ Az (Kept w w' (fun k_ => P0_ k_)) ∧ Az (Below w0.heap.size w0 w'))
 case atStart => exact ⟨(l0), (0), (by first | rfl | (simp; done) | (simp [*]; done)), H', ⟨Nat.le_refl _⟩, ⟨by (with_reducible repeat (first | apply Kd.R_alloc | apply Kd.R_drewN | apply Kd.R_drew)); exact HO0.out⟩, ⟨by repeat (first | (with_reducible first | exact HK.out | apply Kept.alloc | apply Kept.drewN | apply Kept.drew) | exact HK.out)⟩, ⟨by repeat (first | (with_reducible first | exact HB.out | apply aa_ | apply ca_ | apply fa_) | exact HB.out)⟩⟩
 clear H'
 try clear p2
 obtain ⟨x0_1, x5_1, rfl, HA, HK1, HO_0, HK, HB⟩ := hrel
 cases gk with
 | zero => exact absurd HA.out (by simp [r5_num.l0])
 | succ k1 =>
  have H := HA.out; clear HA; simp only [r5_num.l0] at H
  by_cases c3 : x5_1 < 8
  ·rw [if_pos c3] at H
   have c3b0 : decide (x5_1 < 8) = true := decide_eq_true c3; clear c3; obtain ⟨ji4, hji4⟩ : ∃ j_ : Int, (IntKind.u64.wrap (wrap64 (56 - (wrap64 (8 * x5_1))))) = j_ := ⟨_, rfl⟩; replace H : (if 0 ≤ (ji4) then (if x0_1.length < 140737488355328 then (r5_num.l0 k1 (x0_1 ++ [(shr .i64 a1 (ji4)) % 256]) a1 (wrap64 (x5_1 + 1))) else (none)) else (none)) = some r := by first | (rw [hji4] at H; exact H) | (simp only [hji4] at H ⊢; exact H)
   by_cases c5 : 0 ≤ (ji4)
   ·rw [if_pos c5] at H
    have c5b0 := eq_true c5; have c5b1 : decide (0 ≤ (ji4)) = true := decide_eq_true c5; clear c5; obtain ⟨ji6, hji6⟩ : ∃ j_ : Int, (shr .i64 a1 (ji4)) = j_ := ⟨_, rfl⟩; replace H : (if x0_1.length < 140737488355328 then (r5_num.l0 k1 (x0_1 ++ [(ji6) % 256]) a1 (wrap64 (x5_1 + 1))) else (none)) = some r := by first | (rw [hji6] at H; exact H) | (simp only [hji6] at H ⊢; exact H)
    have hji6_ : (a1 / 2 ^ min (ji4).toNat 64) = ji6 := hji6; have hji6z : (ji4) ≤ 64 → (a1 / 2 ^ (ji4).toNat) = ji6 := vu_ hji6
    by_cases c7 : x0_1.length < 140737488355328
    ·rw [if_pos c7] at H
     have LMc7 := aM_ c7; clear c7; obtain ⟨y359, hy359⟩ : ∃ y_ : List Int, y_ = (x0_1 ++ [(ji6) % 256]) := ⟨_, rfl⟩; replace H : (r5_num.l0 k1 y359 a1 (wrap64 (x5_1 + 1))) = some r := by first | (rw [hy359]; with_reducible exact H) | (have H2_ := (Option.bind_some _ _).symm.trans H; rw [hy359]; with_reducible exact H2_) | (have H2_ := (Option.bind_some _ _).symm.trans H; with_reducible exact H2_) | with_reducible exact H | (rw [hy359]; exact H) | exact H
     have Ny359 := aM_ hy359; clear hy359; have H' := aM_ H; clear H
     go_wp2_with (first | ((with_reducible refine hh_ (b := .append) (xs := #[.tmp 10, .tmp 18]) rfl ?_); at_builtin; refine Kd.R_append (Kd.int .u8) (w0 := w0) w0.heap.size rfl (.tmp 10) (.tmp 18) 28 5 (.int .u8 0) 1 rfl Tryz.underlying28 zn_ rfl (by decide) (by omega) u0 x0_1 ((ji6) % 256) [.int .u8 ((ji6) % 256)] (fun k_ => (P0_ k_ ∨ w.heap.size ≤ k_)) (fun _ => False) rfl rfl ?aP (fun _ hk => hk.elim) ?aF ?aO ?aB ?aS ?aL ?_; (case aP => exact rfl); (case aB => exact (by repeat (first | (with_reducible first | exact HB.out | apply aa_ | apply ca_ | apply fa_) | exact HB.out))); (case aF => exact (fun k_ hk => (.inr (Nat.le_trans (by first | exact HK.out.1 | exact (show Kept w _ (fun k_ => P0_ k_) from by repeat (first | (with_reducible first | exact HK.out | apply Kept.alloc | apply Kept.drewN | apply Kept.drew) | exact HK.out)).1) hk)))); (case aO => exact (by (with_reducible repeat (first | apply Kd.R_alloc | apply Kd.R_drewN | apply Kd.R_drew)); exact HO_0.out)); (case aS => exact (qa_ (by repeat (first | (with_reducible first | exact HB.out | apply aa_ | apply ca_ | apply fa_) | exact HB.out)))); (case aL => have := LMc7.out; omega); intro v360 w8 ho hb hg hat; rw [← Ny359.out] at ho; have n0_ := aM_ (hb); have n1_ := aM_ (Kept.of_grown (S := (fun k_ => P0_ k_)) hg (by repeat (first | (with_reducible first | exact HK.out | apply Kept.alloc | apply Kept.drewN | apply Kept.drew) | exact HK.out)) (fun k_ e_ => (HO_0.out.1 k_ e_))); have n2_ := aM_ (ho); clear HB; clear HK; clear HO_0; have HB := n0_; have HK := n1_; have HO361 := n2_; clear n0_ n1_ n2_; clear ho hb hg hat))
     go_roundg k1
     case measure => have := HK1.out; omega
     case rel => exact ⟨(y359), (wrap64 (x5_1 + 1)), (by first | rfl | (simp; done) | (simp [*]; done)), H', ⟨by have := HK1.out; omega⟩, ⟨by (with_reducible repeat (first | apply Kd.R_alloc | apply Kd.R_drewN | apply Kd.R_drew)); exact HO361.out⟩, ⟨by repeat (first | (with_reducible first | exact HK.out | apply Kept.alloc | apply Kept.drewN | apply Kept.drew) | exact HK.out)⟩, ⟨by repeat (first | (with_reducible first | exact HB.out | apply aa_ | apply ca_ | apply fa_) | exact HB.out)⟩⟩
    rw [if_neg c7] at H; exact absurd H (by simp)
   rw [if_neg c5] at H; exact absurd H (by simp)
  rw [if_neg c3] at H; have c3b0 : decide (x5_1 < 8) = false := decide_eq_false c3; clear c3; obtain rfl := Option.some.inj H
  go_wp2
  go_ret
  exact ⟨_, by first | rfl | (simp [gb_, fb_] <;> rfl) | (simp [*, gb_, fb_] <;> rfl), by (with_reducible repeat (first | apply Kd.R_alloc | apply Kd.R_drewN | apply Kd.R_drew)); exact HO_0.out, by repeat (first | (with_reducible first | exact HB.out | apply aa_ | apply ca_ | apply fa_) | exact HB.out), by repeat (first | (with_reducible first | exact HK.out | apply Kept.alloc | apply Kept.drewN | apply Kept.drew) | exact HK.out)⟩
noncomputable def r5_ints.l0 : Nat → List Int → List Int → Int → Option (List Int)
 | 0, _, _, _ => none
 | k + 1, x0, x1, x5 => if x5 < (x1.length : Int) then (if 0 ≤ x5 then ((r5_num.f k x0 (rd x1 x5)).bind fun t366 => (r5_ints.l0 k t366 x1 (wrap64 (x5 + 1)))) else (none)) else (some x0)
noncomputable def r5_ints.f (k : Nat) (l0 : List Int) (l1 : List Int) : Option (List Int) := (r5_num.f k l0 (l1.length : Int)).bind fun t362 => (r5_ints.l0 k t362 l1 0)
theorem r5_ints.calls (k : Nat) (P0_ : Nat → Prop) (u9000_ : Value) (l0 : List Int) (A1 : Option Addr) (c1 : Nat) (l1 : List Int) (r : List Int) (w0 w : World) (hB : Below w0.heap.size w0 w) (ho0 : Kd.R (Kd.int .u8) 5 w w0.heap.size P0_ u9000_ l0) (hr1 : ∀ W_, Kept w W_ (fun k_ => P0_ k_) → Kd.C (Kd.int .i64) W_ A1 l1.length l1) (hc1 : l1.length ≤ c1) (h : r5_ints.f k l0 l1 = some r) :
  Calls Tryz.prog 104 #[u9000_, .slice A1 l1.length c1] w fun e w' => ∃ v0_ : Value, e = .returned (v0_) ∧ Kd.R (Kd.int .u8) 5 w' w0.heap.size (fun k_ => (P0_ k_ ∨ w.heap.size ≤ k_)) v0_ r ∧ Below w0.heap.size w0 w' ∧ Kept w w' (fun k_ => P0_ k_) := by
 have HO0 := aM_ (show Kd.R (Kd.int .u8) 5 w w0.heap.size (fun k_ => (P0_ k_ ∨ w.heap.size ≤ k_)) u9000_ l0 from Kd.R_mono ho0 (fun k_ hk => (.inl hk)))
 have HR1 := aM_ hr1
 have HC1 := aM_ hc1
 clear hr1 hc1
 have HK := aM_ (Kept.refl w (fun k_ => P0_ k_))
 have HW0 := aM_ hB.size
 have HB := aM_ hB
 clear hB
 have H : ((r5_num.f k l0 (l1.length : Int)).bind fun t362 => (r5_ints.l0 k t362 l1 0)) = some r := h
 clear h
 replace H := Option.bind_eq_some_iff.mp H
 obtain ⟨t362, A30, H⟩ := H
 replace H : (r5_ints.l0 k t362 l1 0) = some r := H
 have A3 := aM_ A30
 clear A30
 have H' := aM_ H
 clear H
 obtain ⟨Ao4, co4, eo4⟩ := Kd.R_slice HO0.out
 subst eo4
 go_enter Tryz.func104, Tryz.ntmps104
 go_wp2_with (first | ((with_reducible refine pb_ (f := 49) rfl ?_); refine nd_ (some 9) rfl rfl Tryz.func49 (by kernel_rfl) rfl #[.slice Ao4 l0.length co4, .int .i64 (l1.length : Int)] rfl (by (try simp only [List.map_toArray, List.map_cons, List.map_nil]); first | done | rfl | (simp only [List.length_drop, List.length_take]; rfl)) ?_; (with_reducible refine (r5_num.calls k (fun k_ => some k_ = (.slice Ao4 l0.length co4 : Value).ownBlock) (.slice Ao4 l0.length co4) l0 (l1.length : Int) t362 w0 _ ?side1 ?side2 A3.out).mono ?_); (case side1 => repeat (first | (with_reducible first | exact HB.out | apply aa_ | apply ca_ | apply fa_) | exact HB.out)); (case side2 => exact Kd.R_tight rfl HO0.out); rintro e w5 ⟨v363, rfl, ho0, hb, hkp⟩; refine ⟨_, rfl, ?_⟩; have n0_ := aM_ (Kd.R_mono (ok' := fun k_ => (P0_ k_ ∨ w.heap.size ≤ k_)) ho0 (fun k_ hk_ => Or.elim hk_ (fun hs_ => (HO0.out.1 k_ (hs_).symm)) (fun hn_ => (.inr (Nat.le_trans (by first | exact HK.out.1 | exact (show Kept w _ (fun k_ => P0_ k_) from by repeat (first | (with_reducible first | exact HK.out | apply Kept.alloc | apply Kept.drewN | apply Kept.drew) | exact HK.out)).1) hn_))))); have n1_ := aM_ (Kept.then_ (S := (fun k_ => P0_ k_)) (by repeat (first | (with_reducible first | exact HK.out | apply Kept.alloc | apply Kept.drewN | apply Kept.drew) | exact HK.out)) hkp (fun k_ hs_ => (fun e_ => (HO0.out.1 k_ e_.symm)) hs_)); have n2_ := aM_ (hb); clear HK; clear HB; clear HO0; have HO364 := n0_; have HK := n1_; have HB := n2_; clear n0_ n1_ n2_; (try clear hb); (try clear hkp); (try clear ho0)))
 go_loopg [0, 5] k (fun kq v0 v5 w' => ∃ (x0_1 : List Int) (x5_1 : Int), v5 = .int .i64 x5_1 ∧ Az (r5_ints.l0 kq x0_1 l1 x5_1 = some r) ∧ Az (kq ≤ k) ∧ Az (Kd.R (Kd.int .u8) 5 w' w0.heap.size (fun k_ => (P0_ k_ ∨ w.heap.size ≤ k_)) v0 x0_1) ∧ Az (Kept w w' (fun k_ => P0_ k_)) ∧ Az (Below w0.heap.size w0 w'))
 case atStart => exact ⟨(t362), (0), (by first | rfl | (simp; done) | (simp [*]; done)), H', ⟨Nat.le_refl _⟩, ⟨by (with_reducible repeat (first | apply Kd.R_alloc | apply Kd.R_drewN | apply Kd.R_drew)); exact HO364.out⟩, ⟨by repeat (first | (with_reducible first | exact HK.out | apply Kept.alloc | apply Kept.drewN | apply Kept.drew) | exact HK.out)⟩, ⟨by repeat (first | (with_reducible first | exact HB.out | apply aa_ | apply ca_ | apply fa_) | exact HB.out)⟩⟩
 clear H'
 try clear c1
 try clear p2
 try clear c4
 obtain ⟨x0_1, x5_1, rfl, HA, HK1, HO_0, HK, HB⟩ := hrel
 cases gk with
 | zero => exact absurd HA.out (by simp [r5_ints.l0])
 | succ k1 =>
  have H := HA.out; clear HA; simp only [r5_ints.l0] at H
  by_cases c6 : x5_1 < (l1.length : Int)
  ·rw [if_pos c6] at H
   have c6b0 : decide (x5_1 < (l1.length : Int)) = true := decide_eq_true c6; clear c6
   by_cases c7 : 0 ≤ x5_1
   ·rw [if_pos c7] at H
    have c7b0 : decide (0 ≤ x5_1) = true := decide_eq_true c7; clear c7; replace H := Option.bind_eq_some_iff.mp H; obtain ⟨t366, A80, H⟩ := H; replace H : (r5_ints.l0 k1 t366 l1 (wrap64 (x5_1 + 1))) = some r := H; have A8 := aM_ A80; clear A80; have H' := aM_ H; clear H; have p365 : 0 ≤ (x5_1 : Int) := of_decide_eq_true (by first | (with_reducible assumption) | assumption); have q365 : x5_1 < (l1.length : Int) := of_decide_eq_true (by first | (with_reducible assumption) | assumption); obtain ⟨ad365, e365, hx365_0⟩ := Kd.at_int (Kd.C_kept_now HR1.out HK.out) x5_1 p365 q365
    cases e365
    replace p365 := eq_true p365; replace q365 := eq_true q365; obtain ⟨Ao9, co9, eo9⟩ := Kd.R_slice HO_0.out; subst eo9
    go_wp2_with (first | ((with_reducible refine pb_ (f := 49) rfl ?_); refine nd_ (some 21) rfl rfl Tryz.func49 (by kernel_rfl) rfl #[.slice Ao9 x0_1.length co9, .int .i64 (rd l1 x5_1)] rfl (by (try simp only [List.map_toArray, List.map_cons, List.map_nil]); first | done | rfl | (simp only [List.length_drop, List.length_take]; rfl)) ?_; (with_reducible refine (r5_num.calls k1 (fun k_ => some k_ = (.slice Ao9 x0_1.length co9 : Value).ownBlock) (.slice Ao9 x0_1.length co9) x0_1 (rd l1 x5_1) t366 w0 _ ?side1 ?side2 A8.out).mono ?_); (case side1 => repeat (first | (with_reducible first | exact HB.out | apply aa_ | apply ca_ | apply fa_) | exact HB.out)); (case side2 => exact Kd.R_tight rfl HO_0.out); rintro e w10 ⟨v367, rfl, ho0, hb, hkp⟩; refine ⟨_, rfl, ?_⟩; have n0_ := aM_ (Kd.R_mono (ok' := fun k_ => (P0_ k_ ∨ w.heap.size ≤ k_)) ho0 (fun k_ hk_ => Or.elim hk_ (fun hs_ => (HO_0.out.1 k_ (hs_).symm)) (fun hn_ => (.inr (Nat.le_trans (by first | exact HK.out.1 | exact (show Kept w _ (fun k_ => P0_ k_) from by repeat (first | (with_reducible first | exact HK.out | apply Kept.alloc | apply Kept.drewN | apply Kept.drew) | exact HK.out)).1) hn_))))); have n1_ := aM_ (Kept.then_ (S := (fun k_ => P0_ k_)) (by repeat (first | (with_reducible first | exact HK.out | apply Kept.alloc | apply Kept.drewN | apply Kept.drew) | exact HK.out)) hkp (fun k_ hs_ => (fun e_ => (HO_0.out.1 k_ e_.symm)) hs_)); have n2_ := aM_ (hb); clear HK; clear HB; clear HO_0; have HO368 := n0_; have HK := n1_; have HB := n2_; clear n0_ n1_ n2_; (try clear hb); (try clear hkp); (try clear ho0)))
    go_roundg k1
    case measure => have := HK1.out; omega
    case rel => exact ⟨(t366), (wrap64 (x5_1 + 1)), (by first | rfl | (simp; done) | (simp [*]; done)), H', ⟨by have := HK1.out; omega⟩, ⟨by (with_reducible repeat (first | apply Kd.R_alloc | apply Kd.R_drewN | apply Kd.R_drew)); exact HO368.out⟩, ⟨by repeat (first | (with_reducible first | exact HK.out | apply Kept.alloc | apply Kept.drewN | apply Kept.drew) | exact HK.out)⟩, ⟨by repeat (first | (with_reducible first | exact HB.out | apply aa_ | apply ca_ | apply fa_) | exact HB.out)⟩⟩
   rw [if_neg c7] at H; exact absurd H (by simp)
  rw [if_neg c6] at H; have c6b0 : decide (x5_1 < (l1.length : Int)) = false := decide_eq_false c6; clear c6; obtain rfl := Option.some.inj H
  go_wp2
  go_ret
  exact ⟨_, by first | rfl | (simp [gb_, fb_] <;> rfl) | (simp [*, gb_, fb_] <;> rfl), by (with_reducible repeat (first | apply Kd.R_alloc | apply Kd.R_drewN | apply Kd.R_drew)); exact HO_0.out, by repeat (first | (with_reducible first | exact HB.out | apply aa_ | apply ca_ | apply fa_) | exact HB.out), by repeat (first | (with_reducible first | exact HK.out | apply Kept.alloc | apply Kept.drewN | apply Kept.drew) | exact HK.out)⟩
end Go.Proofs.YtiocgaekoeekgaaGreat.P
end
section
namespace Go.Proofs.YtiocgaekoeekgaaGreat.P
open Go.RowKit YtiocgaekoeekgaaGreatW.PrintWords YtiocgaekoeekgaaGreatW.PrintLast YtiocgaekoeekgaaGreatW.PrintMore
attribute [local go_sem] vb_ tb_ fc_ dc_ ob_ nb_ ub_ sb_   
set_option linter.unusedVariables false
set_option linter.unusedSimpArgs false
attribute [local go_sem] Oper.semAt_some
structure WrAt (w0 : World) (g : Nat) (bs : List Int) (W : World) : Prop where
 row : ∃ A c, W.heap[g]? = some (.cells #[.slice A bs.length c] 76 (0, 0)) ∧ Kd.R (Kd.int .u8) 5 W w0.heap.size (fun k => k ≠ g) (.slice A bs.length c) bs
 below : Below w0.heap.size w0 W
 ge : w0.heap.size ≤ g
def Kept8 (g : Nat) (W W' : World) : Prop := ∀ k o, W.heap[k]? = some o → k ≠ g → (∀ cs z, o ≠ .cells cs 5 z) → W'.heap[k]? = some o
theorem Kept8.refl (g : Nat) (W : World) : Kept8 g W W := fun _ _ h _ _ => h
theorem Kept8.trans {g : Nat} {W W1 W2 : World} (h1 : Kept8 g W W1) (h2 : Kept8 g W1 W2) : Kept8 g W W2 := fun k o h hk ho => h2 k o (h1 k o h hk ho) hk ho
theorem Kept8.below {g : Nat} {W W1 : World} (hb : Below W.heap.size W W1) : Kept8 g W W1 := fun k o h _ _ => oa_ h hb
theorem Kept8.grown {g : Nat} {W W1 : World} {b : Nat} {ok : Nat → Prop} {v : Value} {bs : List Int} (hR : Kd.R (Kd.int .u8) 5 W b ok v bs) (hg : W.grownBy W1 v.ownBlock) : Kept8 g W W1 := fun k o h _ ho => (hg.block k (eb_ h) (fun e => by
 obtain ⟨cs, hc⟩ := Kd.R_typed hR k e.symm
 rw [h] at hc
 injection hc with hc
 exact ho cs (0, 0) hc)).trans h
theorem Kept8.set {g : Nat} (W : World) (i : Nat) (v : Value) : Kept8 g W (W.setCell ⟨g, i, none⟩ v) := fun k o h hk _ => (heap_setCell_other W ⟨g, i, none⟩ k v hk).trans h
theorem WrAt.grow {w0 : World} {g : Nat} {bs : List Int} {W W1 : World} (h : WrAt w0 g bs W) (hb : Below W.heap.size W W1) : WrAt w0 g bs W1 := by
 obtain ⟨A, c, h1, h2⟩ := h.row
 exact ⟨⟨A, c, oa_ h1 hb, Kd.R_below h2 hb⟩, ga_ h.below hb, h.ge⟩
def kd_ (n k : Int) : Int := IntKind.u8.wrap (n / 2 ^ k.toNat)
def num8 (n : Int) : List Int := (List.range 8).map fun (j : Nat) => kd_ n (56 - 8 * (j : Int))
def ya_ (l : List Int) : List Int := l.flatMap num8
theorem za_ (n : Int) : (num8 n).length = 8 := by simp [num8]
theorem ta_ : ∀ l : List Int, (ya_ l).length = 8 * l.length
 | [] => rfl
 | n :: l => by
  show (num8 n ++ ya_ l).length = _; rw [List.length_append, za_, ta_ l, List.length_cons]; omega
theorem gv_ (n : Int) (j : Nat) (hj : j < 8) : (num8 n).take (j + 1) = (num8 n).take j ++ [kd_ n (56 - 8 * (j : Int))] := by
 rw [List.take_succ_eq_append_getElem (by rw [za_]; exact hj)]
 simp [num8]
theorem js_ (l : List Int) (i : Nat) (hi : i < l.length) : ya_ (l.take (i + 1)) = ya_ (l.take i) ++ num8 l[i] := by
 unfold ya_
 rw [List.take_succ_eq_append_getElem hi, List.flatMap_append]
 simp
section
variable {ops : Array Oper} {o : Oper} {a : Act} {Q : Exit → Act → World → Prop} {Kc : Act → World → Prop}
theorem xl_ {W : World} (hw : Region.wanted o (yielded ops a.tmps) = true) (hN : o.dst = none) (t : TypeId) (p x : Operand) (ho : o.op = .store t p x) {g i : Nat} {e : TypeId} {cur : Array Value} (u : Value) (haddr : a.eval p = .pointer (some ⟨g, i, none⟩)) (hx : a.eval x = u)
  (hu : u.cells.toList = [u]) (h1 : u.oneCell' = true) (ht : (Tryz.prog.info? t).map (·.size) = some 1) (hblk : W.heap[g]? = some (.cells cur e (0, 0))) (hi : i < cur.size) (h : Kc (a.put none undef) (W.setCell ⟨g, i, none⟩ u)) : if Region.wanted o (yielded ops a.tmps) = true then Oper.wp Tryz.prog o a W Kc Q else Kc (a.put none undef) W := by
 have hrun := oi_ t u [u] hblk hu ht (P := Tryz.prog) (Nat.succ_le_of_lt hi) (by intro q hq; rw [List.mem_singleton] at hq; rw [hq]; exact h1)
 rw [if_pos hw]
 unfold Oper.wp execOp
 simp only [ho, haddr, hx, Sem.run_bind, Sem.run_pure, Result.andThen_ok, hrun]
 show Kc (a.put o.dst undef) _
 rw [hN]
 exact h
end
theorem rj_ (w0 : World) (g : Nat) (bs : List Int) (A1 : Option Addr) (c1 : Nat) (l : List Int) (W : World) (h : WrAt w0 g bs W) (hr1 : ∀ W', Kept8 g W W' → Below w0.heap.size w0 W' → Kd.C (Kd.int .i64) W' A1 l.length l) (hc1 : l.length ≤ c1) (hlen : bs.length + 8 * l.length ≤ 1000000000000) :
  Calls Tryz.prog 74 #[.pointer (some ⟨g, 0, none⟩), .slice A1 l.length c1] W fun e W' => e = .returned (.tuple #[]) ∧ WrAt w0 g (bs ++ ya_ l) W' ∧ Kept8 g W W' := by
 have HR1 := aM_ hr1
 have HH : Az (WrAt w0 g (bs ++ ya_ (l.take 0)) W) := ⟨by rw [List.take_zero]; show WrAt w0 g (bs ++ []) W; rw [List.append_nil]; exact h⟩
 have HK0 := aM_ (Kept8.refl g W)
 clear hr1 h
 go_enter Tryz.func74, Tryz.ntmps74
 go_wp2
 go_loopg [9] l.length (fun gg s9 wr => ∃ i : Nat, i ≤ l.length ∧ l.length - i ≤ gg ∧ s9 = .int .i64 i ∧ Az (WrAt w0 g (bs ++ ya_ (l.take i)) wr) ∧ Az (Kept8 g W wr))
 case atStart => exact ⟨0, by omega, by omega, rfl, HH, HK0⟩
 clear HH HK0
 obtain ⟨i, hi, hgg, rfl, HW, HK⟩ := hrel
 by_cases hil : i < l.length
 ·have hilz : (i : Int) < (l.length : Int) := by omega
  obtain ⟨ad1, hA1, hcv⟩ := Kd.at_int (HR1.out wr HK.out HW.out.below) (i : Int) (by omega) hilz; subst hA1; rw [Int.toNat_natCast] at hcv
  have hn : rd l (i : Int) = l[i] := by
   show l.getD (i : Int).toNat 0 = _; rw [Int.toNat_natCast, List.getD_eq_getElem?_getD, List.getElem?_eq_getElem hil]; rfl
  have HSN := aM_ (js_ l i hil); rw [← hn] at HSN; have hl0 : (bs ++ ya_ (l.take i)).length = bs.length + 8 * i := by rw [List.length_append, ta_, List.length_take, Nat.min_eq_left hi]
  generalize rd l (i : Int) = n at *; have HL0 := aM_ hl0; obtain ⟨B, hB⟩ : ∃ B, B = bs ++ ya_ (l.take i) := ⟨_, rfl⟩; rw [← hB] at HW HL0; have HBB := aM_ hB; have HW0 : Az (WrAt w0 g (B ++ (num8 n).take 0) wr) := ⟨by rw [List.take_zero, List.append_nil]; exact HW.out⟩; clear hn hl0 hB HW
  go_wp2
  clear hcv
  go_loopg [6] 8 (fun gg2 s6 wr => ∃ j : Nat, j ≤ 8 ∧ 8 - j ≤ gg2 ∧ s6 = .int .i64 (56 - 8 * (j : Int)) ∧ Az (WrAt w0 g (B ++ (num8 n).take j) wr) ∧ Az (Kept8 g W wr))
  case atStart => exact ⟨0, by omega, by omega, rfl, HW0, HK⟩
  clear HW0 HK; obtain ⟨j, hj, hgg2, rfl, HW, HK⟩ := hrel
  by_cases hjl : j < 8
  ·have HSJ := aM_ (gv_ n j hjl)
   have hlb : (B ++ (num8 n).take j).length = bs.length + 8 * i + j := by rw [List.length_append, HL0.out, List.length_take, za_]; omega
   obtain ⟨D, hD⟩ : ∃ D, D = B ++ (num8 n).take j := ⟨_, rfl⟩; rw [← hD] at HW hlb; have HDD := aM_ hD; have hbl : (D.length + 1) * 1 ≤ 140737488355328 := by omega
   have HGE := aM_ HW.out.ge; obtain ⟨A, c, hblk, hrow⟩ := HW.out.row; have hge : (0 : Int) ≤ 56 - 8 * (j : Int) := by omega
   have r0 : wr.drew.cell? ⟨g, 0, none⟩ = some (.slice A D.length c) := ba_ hblk 0; have HRW : Az (Kd.R (Kd.int .u8) 5 wr.drew w0.heap.size (fun k => k ≠ g) (.slice A D.length c) D) := ⟨Kd.R_drew hrow⟩; have HBW : Az (Below w0.heap.size w0 wr.drew) := ⟨fa_ HW.out.below⟩; have HGL : Az (g < wr.drew.heap.size) := ⟨eb_ hblk⟩; have HKW : Az (Kept8 g W wr.drew) := ⟨HK.out.trans (Kept8.below (fa_ (Below.refl _ _)))⟩; have HBK : Az (wr.drew.heap[g]? = some (.cells #[.slice A D.length c] 76 (0, 0))) := ⟨hblk⟩; clear hD HW HK hblk hrow hlb
   go_wp2
   refine yd_ (n := 14) (S := fun w' => w'.cell? ⟨g, 0, none⟩ = some (.slice A D.length c) ∧ w'.cell? ⟨g, 0, none⟩ = some (.slice A D.length c)) (ds := [13]) (f_ 14 0) (by kernel_rfl) rfl rfl ⟨r0, r0⟩ (fun hHeld => ?_); clear r0; generalize wr.drew = W5 at *; refine pU_ 0 17 ?_ (f_ 14 1) rfl rfl (by kernel_rfl) (fun _ _ _ h => h) (by rfl) ?_ ?_ ?_ ?_; rotate_left
   ·intro w'
    go_simp; try with_reducible rfl
   rotate_left
   ·simp only [Act.put, s1_, s2_, s3_, ia_, ja_]
    rfl
   refine pU_ 1 18 ?_ (f_ 14 2) rfl rfl (by kernel_rfl) (fun _ _ _ h => h) (by rfl) ?_ ?_ ?_ ?_; rotate_left
   ·intro w'
    go_simp; try with_reducible rfl
   rotate_left
   ·simp only [Act.put, s1_, s2_, s3_, ia_, ja_]
    rfl
   refine pU_ 2 19 ?_ (f_ 14 3) rfl rfl (by kernel_rfl) (fun _ _ _ h => h) (by rfl) ?_ ?_ ?_ ?_; rotate_left
   ·intro w'
    go_simp; try with_reducible rfl
   rotate_left
   ·simp only [Act.put, s1_, s2_, s3_, ia_, ja_]
    rfl
   refine pU_ 3 20 ?_ (f_ 14 4) rfl rfl (by kernel_rfl) (fun _ _ _ h => h) (by rfl) ?_ ?_ ?_ ?_; rotate_left
   ·intro w'
    go_simp; try with_reducible rfl
   rotate_left
   ·simp only [Act.put, s1_, s2_, s3_, ia_, ja_]
    rfl
   refine tA_ 4 21 ?_ (f_ 14 5) rfl rfl (by kernel_rfl) (fun _ _ _ h => h) (by rfl) ?_ hHeld ?_ ?_ ?_; rotate_left
   ·rintro w' ⟨s0, s1⟩
    go_simp; try with_reducible rfl
   rotate_left
   ·simp only [Act.put, s1_, s2_, s3_, ia_, ja_]
    rfl
   refine pU_ 5 22 ?_ (f_ 14 6) rfl rfl (by kernel_rfl) (fun _ _ _ h => h) (by rfl) ?_ ?_ ?_ ?_; rotate_left
   ·intro w'
    go_simp; try with_reducible rfl
   rotate_left
   ·simp only [Act.put, s1_, s2_, s3_, ia_, ja_]
    rfl
   refine pU_ 6 23 ?_ (f_ 14 7) rfl rfl (by kernel_rfl) (fun _ _ _ h => h) (by rfl) ?_ ?_ ?_ ?_; rotate_left
   ·intro w'
    go_simp; try with_reducible rfl
   rotate_left
   ·simp only [Act.put, s1_, s2_, s3_, ia_, ja_]
    rfl
   refine pU_ 7 24 ?_ (f_ 14 8) rfl rfl (by kernel_rfl) (fun _ _ _ h => h) (by rfl) ?_ ?_ ?_ ?_; rotate_left
   ·intro w'
    go_simp; try with_reducible rfl
   rotate_left
   ·simp only [Act.put, s1_, s2_, s3_, ia_, ja_]
    rfl
   refine pU_ 8 25 ?_ (f_ 14 9) rfl rfl (by kernel_rfl) (fun _ _ _ h => h) (by rfl) ?_ ?_ ?_ ?_; rotate_left
   ·intro w'
    go_simp; try with_reducible rfl
   rotate_left
   ·simp only [Act.put, s1_, s2_, s3_, ia_, ja_]
    rfl
   refine one_ (i := 9) (N := some 26) (f_ 14 10) rfl rfl (by kernel_rfl) (by decide) (fun K hK => ?_); refine ad_ (w1 := ?_) (v := ?_) (by rfl) rfl ?_ ?_; rotate_left 2
   ·go_simp
    constructor
    ·rfl
    rfl
   refine hK.out _ _ ⟨(World.cell?_alloc_lt _ _ _ (World.block_lt_of_cell? _ _ hHeld.1)).trans hHeld.1, (World.cell?_alloc_lt _ _ _ (World.block_lt_of_cell? _ _ hHeld.1)).trans hHeld.1⟩ (fun hHeld => ?_); clear hK K; refine wa_ (a' := ?_) ?_ ?_; rotate_left
   ·show Act.put _ (some 26) _ = _
    simp only [Act.put, s1_, s2_, s3_, ia_, ja_]; rfl
   refine one_ (i := 10) (N := some 27) (f_ 14 11) rfl rfl (by kernel_rfl) (by decide) (fun K hK => ?_); refine Kd.R_append_step (Kd.int .u8) (w0 := w0) (W := W5) w0.heap.size (by rfl) (.tmp 21) (.tmp 26) 28 5 (.int .u8 0) 1 rfl Tryz.underlying28 zn_ rfl (by decide) (by decide) (.slice A D.length c) D (kd_ n (56 - 8 * (j : Int))) [.int .u8 (kd_ n (56 - 8 * (j : Int)))] (fun k => k ≠ g) (fun _ => False) (by rfl) (by rfl) rfl (fun _ hk => hk.elim) (fun k hk => by have := HGL.out; omega) HRW.out HBW.out HBW.out.size hbl (fun v1 w1 hR1 hB1 hg1 _ => ?_); obtain ⟨A', c', hv1⟩ := Kd.R_slice hR1; subst hv1; have HR1' := aM_ hR1; have HB1 := aM_ hB1; have HBK1 := aM_ (lb_ HBK.out hg1 (fun e => HRW.out.1 _ e.symm rfl)); have HK1 := aM_ (HKW.out.trans (Kept8.grown HRW.out hg1)); clear hR1 hB1; refine hK.out _ _ ⟨ba_ HBK1.out 0, ba_ HBK1.out 0⟩ (fun hHeld => ?_); clear hg1; clear hK K; refine wa_ (a' := ?_) ?_ ?_; rotate_left
   ·show Act.put _ (some 27) _ = _
    simp only [Act.put, s1_, s2_, s3_, ia_, ja_]; rfl
   refine pU_ 11 28 ?_ (f_ 14 12) rfl rfl (by kernel_rfl) (fun _ _ _ h => h) (by rfl) ?_ ?_ ?_ ?_; rotate_left
   ·intro w'
    go_simp; try with_reducible rfl
   rotate_left
   ·simp only [Act.put, s1_, s2_, s3_, ia_, ja_]
    rfl
   refine pU_ 12 29 ?_ (f_ 14 13) rfl rfl (by kernel_rfl) (fun _ _ _ h => h) (by rfl) ?_ ?_ ?_ ?_; rotate_left
   ·intro w'
    go_simp; try with_reducible rfl
   rotate_left
   ·simp only [Act.put, s1_, s2_, s3_, ia_, ja_]
    rfl
   refine xh_ (i := 13) (N := none) (f_ 14 14) rfl rfl (by kernel_rfl) (by decide) (fun K hK => ?_); refine xl_ (by rfl) rfl 28 (.tmp 29) (.tmp 27) rfl (g := g) (i := 0) (.slice A' (D ++ [kd_ n (56 - 8 * (j : Int))]).length c') (by rfl) (by rfl) rfl rfl (by kernel_rfl) HBK1.out (by simp) ?_; refine hK.out _ _ ?_; clear hK K; refine ge_ (by kernel_rfl) ?_
   have HW6 : Az (WrAt w0 g (B ++ (num8 n).take (j + 1)) (w1.setCell ⟨g, 0, none⟩ (.slice A' (D ++ [kd_ n (56 - 8 * (j : Int))]).length c'))) := ⟨by
    rw [HSJ.out, ← List.append_assoc, ← HDD.out]
    exact ⟨⟨A', c', by simpa using va_ HBK1.out 0 (.slice A' (D ++ [kd_ n (56 - 8 * (j : Int))]).length c'), Kd.R_far HR1'.out (p := ⟨g, 0, none⟩) (fun k hk => hk) _⟩, HB1.out.setCell (p := ⟨g, 0, none⟩) HGE.out _, HGE.out⟩⟩
   have HK6 : Az (Kept8 g W (w1.setCell ⟨g, 0, none⟩ (.slice A' (D ++ [kd_ n (56 - 8 * (j : Int))]).length c'))) := ⟨HK1.out.trans (Kept8.set w1 0 _)⟩; generalize w1.setCell ⟨g, 0, none⟩ (.slice A' (D ++ [kd_ n (56 - 8 * (j : Int))]).length c') = W7 at *
   go_wp2
   go_roundg (8 - (j + 1))
   case measure => omega
   case rel => exact ⟨j + 1, by omega, by omega, by go_num, HW6, HK6⟩
  have he : j = 8 := by omega
  have hge : decide ((0 : Int) ≤ 56 - 8 * (j : Int)) = false := by simp; omega
  have hge2 : ¬ 8 * (j : Int) ≤ 56 := by omega
  have HW6 : Az (WrAt w0 g (bs ++ ya_ (l.take (i + 1))) wr) := ⟨by
   have h9 := HW.out; rw [he, List.take_of_length_le (by rw [za_]; exact Nat.le_refl _), HBB.out, List.append_assoc, ← HSN.out] at h9
   exact h9⟩
  clear he
  go_wp2
  go_roundg (l.length - (i + 1))
  case measure => omega
  case rel => exact ⟨i + 1, by omega, by omega, by go_num, HW6, HK⟩
 have he : i = l.length := by omega
 have hilz : decide ((i : Int) < (l.length : Int)) = false := by simp; omega
 rw [he, List.take_length] at HW
 clear he
 go_wp2
 go_end0
 exact ⟨rfl, HW.out, HK.out⟩
theorem lit8_R {W : World} {base a : Nat} {xs : List Int} {ok : Nat → Prop} (h : W.heap[a]? = some (.cells (xs.map (Value.int .i64)).toArray 3 (0, 0))) (hb : base ≤ a) (hn : xs.length ≤ 1000000) (hok : ok a) : Kd.R (Kd.int .i64) 3 W base ok (.slice (some ⟨a, 0, none⟩) xs.length xs.length) xs := by
 have h1 : W.ownsRow base 3 1 (.slice (some ⟨a, 0, none⟩) xs.length xs.length) xs.length (xs.map (Value.int .i64)) :=
  ⟨by simp, .inr ⟨a, xs.length, _, rfl, hb, h, Nat.le_refl _, by simp [maxLen]; omega, by simp, by rw [List.take_of_length_le (by simp)]⟩⟩
 exact Kd.R_of_own (enc := Value.int .i64) (h1 := fun _ => rfl) (xs := xs) h1 (fun k hk => by
  have hk2 : a = k := by simpa [Value.ownBlock] using hk
  exact hk2 ▸ hok)
theorem xc_ (w0 : World) (g : Nat) (bs : List Int) (xs : List Int) (W : World) (h : WrAt w0 g bs W) (hx : xs.length ≤ 1000) (hlen : bs.length + 8 * xs.length ≤ 1000000000000) :
  Calls Tryz.prog 74 #[.pointer (some ⟨g, 0, none⟩), .slice (some ⟨W.heap.size, 0, none⟩) xs.length xs.length] (W.alloc (.cells (xs.map (Value.int .i64)).toArray 3)) fun e W' => e = .returned (.tuple #[]) ∧ WrAt w0 g (bs ++ ya_ xs) W' ∧ Kept8 g W W' := by
 obtain ⟨A, c, hb, _⟩ := h.row
 have hlt := eb_ hb
 refine (rj_ w0 g bs (some ⟨W.heap.size, 0, none⟩) xs.length xs _ (h.grow (aa_ (Below.refl _ _) _)) (fun W' hk _ => ?_) (Nat.le_refl _) hlen).mono ?_
 ·have h1 := hk W.heap.size _ (ra_ W _) (by omega) (fun cs z e => by injection e with _ e; exact absurd e (by decide))
  exact (Kd.R_reads' (lit8_R (base := 0) (ok := fun _ => True) h1 (Nat.zero_le _) (by omega) trivial)).2.2
 rintro e W' ⟨rfl, h1, h2⟩
 exact ⟨rfl, h1, (Kept8.below (aa_ (Below.refl _ _) _)).trans h2⟩
def txt8 (s : BA) : List Int := ya_ [(s.size : Int)] ++ fd_ s
theorem ac_ (s : BA) : (txt8 s).length = 8 + s.size := by
 unfold txt8
 rw [List.length_append, ta_, lf_]
 rfl
theorem yi_ (w0 : World) (g : Nat) (bs : List Int) (s : BA) (W : World) (h : WrAt w0 g bs W) (hlen : bs.length + (8 + s.size) ≤ 1000000000000) :
  Calls Tryz.prog 75 #[.pointer (some ⟨g, 0, none⟩), .string s] W fun e W' => e = .returned (.tuple #[]) ∧ WrAt w0 g (bs ++ txt8 s) W' ∧ Kept8 g W W' := by
 have hnum := xc_ w0 g bs [(s.size : Int)] W h (by simp) (by simp; omega)
 have HN := aM_ hnum
 clear hnum h
 go_enter Tryz.func75, Tryz.ntmps75
 go_wp2_with fail
 refine HN.out.mono ?_
 rintro e w1 ⟨rfl, hW, hK⟩
 have HK := aM_ hK
 have HE : Az (bs ++ txt8 s = bs ++ ya_ [(s.size : Int)] ++ fd_ s) := ⟨by unfold txt8; rw [List.append_assoc]⟩
 have hl : (bs ++ ya_ [(s.size : Int)]).length = bs.length + 8 := by rw [List.length_append, ta_]; rfl
 generalize bs ++ ya_ [(s.size : Int)] = D at *
 obtain ⟨A, c, hblk, hrow⟩ := hW.row
 have HGE := aM_ hW.ge
 have r0 : w1.cell? ⟨g, 0, none⟩ = some (.slice A D.length c) := ba_ hblk 0
 have HRW := aM_ hrow
 have HBW := aM_ hW.below
 have HBK := aM_ hblk
 have hbl : D.length + s.size ≤ 140737488355328 := by omega
 clear hW hK hblk hrow HN hl
 go_wp2_with (at_builtin; go_loud (refine gk_ (w0 := w0) w0.heap.size rfl (.tmp 13) (.tmp 14) 28 9 5 rfl Tryz.underlying28 Tryz.underlying9 zn_ (.slice A D.length c) D s rfl rfl (Kd.own_of_R HRW.out) HBW.out HBW.out.size hbl ?_); intro v2 w2 ho2 hb2 hg2; have hR2 : Kd.R (Kd.int .u8) 5 w2 w0.heap.size (fun k => True) v2 (D ++ fd_ s) := Kd.R_of_own (enc := Value.int .u8) (h1 := fun _ => rfl) ho2 (fun _ _ => trivial); have hbk2 := lb_ HBK.out hg2 (fun e => HRW.out.1 _ e.symm rfl); have hR3 := Kd.R_mono (Kd.R_types hR2 hbk2 (by decide)) (fun k hk => hk.2); obtain ⟨A', c', hv2⟩ := Kd.R_slice hR3; subst hv2; generalize hD2 : D ++ fd_ s = D2 at *; clear hD2; have HR2 := aM_ hR3; have HB2 := aM_ hb2; have HBK2 := aM_ hbk2; have HK2 := aM_ (HK.out.trans (Kept8.grown HRW.out hg2)); have hc2 := ba_ hbk2 0; have hf2 := da_ hbk2 0; clear ho2 hb2 hg2 hR2 hR3 hbk2)
 have HW6 : Az (WrAt w0 g (bs ++ txt8 s) (w2.setCell ⟨g, 0, none⟩ (.slice A' D2.length c'))) := ⟨by
  rw [HE.out]
  exact ⟨⟨A', c', by simpa using va_ HBK2.out 0 (.slice A' D2.length c'), Kd.R_far HR2.out (p := ⟨g, 0, none⟩) (fun k hk => hk) _⟩, HB2.out.setCell (p := ⟨g, 0, none⟩) HGE.out _, HGE.out⟩⟩
 have HK6 : Az (Kept8 g W (w2.setCell ⟨g, 0, none⟩ (.slice A' D2.length c'))) := ⟨HK2.out.trans (Kept8.set w2 0 _)⟩
 generalize w2.setCell ⟨g, 0, none⟩ (.slice A' D2.length c') = W7 at *
 go_wp2
 go_end0
 exact ⟨rfl, HW6.out, HK6.out⟩
theorem shift5 : ∀ j : Fin 8, IntKind.u64.wrap (wrap64 (56 - (wrap64 (8 * ((j : Nat) : Int))))) = 56 - 8 * ((j : Nat) : Int) := by decide +kernel
theorem byte5 (n : Int) (j : Nat) (hj : j < 8) : (shr .i64 n (56 - 8 * (j : Int))) % 256 = kd_ n (56 - 8 * (j : Int)) := by
 unfold shr kd_
 rw [IntKind.wrap_u8', Nat.min_eq_left (by show _ ≤ 64; omega)]
theorem num5_l0 (n : Int) : ∀ (m j : Nat) (x : List Int), j + m = 8 → x.length + m ≤ 1000000000000 → r5_num.l0 (m + 1) x n (j : Int) = some (x ++ (num8 n).drop j) := by
 intro m
 induction m with
 | zero =>
  intro j x hj hx
  rw [r5_num.l0, if_neg (by omega), List.drop_eq_nil_of_le (by rw [za_]; omega), List.append_nil]
 | succ m ih =>
  intro j x hj hx; have hs := shift5 ⟨j, by omega⟩; simp only at hs; rw [r5_num.l0, if_pos (by omega), hs, if_pos (by omega), if_pos (by omega), byte5 n j (by omega), show wrap64 ((j : Int) + 1) = ((j + 1 : Nat) : Int) from by rw [wrap64]; omega, ih (j + 1) _ (by omega) (by rw [List.length_append]; simp; omega)]
  have hd : (num8 n).drop j = kd_ n (56 - 8 * (j : Int)) :: (num8 n).drop (j + 1) := by
   rw [List.drop_eq_getElem_cons (by rw [za_]; omega)]
   congr 1
   simp [num8]
  rw [hd, List.append_assoc]; rfl
theorem ks_ (l : List Int) (n : Int) (hl : l.length + 8 ≤ 1000000000000) : r5_num.f 9 l n = some (l ++ num8 n) := num5_l0 n 8 0 l rfl hl
def Row5 (w0 : World) (v : Value) (bs : List Int) (W : World) : Prop := Kd.R (Kd.int .u8) 5 W w0.heap.size (fun _ => True) v bs ∧ Below w0.heap.size w0 W
def KeptT (W W' : World) : Prop := ∀ (g t : Nat) (cs : Array Value), 5 ≠ t → W.heap[g]? = some (.cells cs t (0, 0)) → W'.heap[g]? = some (.cells cs t (0, 0))
theorem KeptT.trans {W W1 W2 : World} (h1 : KeptT W W1) (h2 : KeptT W1 W2) : KeptT W W2 := fun g t cs ht h => h2 g t cs ht (h1 g t cs ht h)
theorem KeptT.below {W W1 : World} (hb : Below W.heap.size W W1) : KeptT W W1 := fun _ _ _ _ h => oa_ h hb
theorem je_ (w0 : World) (v : Value) (bs : List Int) (n : Int) (W : World) (h : Row5 w0 v bs W) (hl : bs.length + 8 ≤ 1000000000000) :
  Calls Tryz.prog 49 #[v, .int .i64 n] W fun e W' => ∃ v', e = .returned v' ∧ Row5 w0 v' (bs ++ num8 n) W' ∧ KeptT W W' := by
 have h1 : Kd.R (Kd.int .u8) 5 W w0.heap.size (fun k => v.ownBlock = some k) v bs := ⟨fun k hk => hk, h.1.2.imp_ (fun _ _ hm => hm)⟩
 refine (r5_num.calls 9 _ v bs n _ w0 W h.2 h1 (ks_ bs n hl)).mono ?_
 rintro e W' ⟨v', rfl, hr, hb, hk⟩
 refine ⟨v', rfl, ⟨Kd.R_mono hr (fun _ _ => trivial), hb⟩, fun g t cs ht hg => ?_⟩
 exact (hk.2 g (eb_ hg) (fun he => Kd.R_ne h.1 hg ht he.symm)).trans hg
theorem ko_ (w0 : World) (v : Value) (bs : List Int) (s : BA) (W : World) (h : Row5 w0 v bs W) (hl : bs.length + (txt8 s).length ≤ 1000000000000) :
  Calls Tryz.prog 103 #[v, .string s] W fun e W' => ∃ v', e = .returned v' ∧ Row5 w0 v' (bs ++ txt8 s) W' ∧ KeptT W W' := by
 rw [ac_] at hl
 have HN := aM_ (je_ w0 v bs s.size W h (by omega))
 have HL := aM_ hl
 have hkb := fun W => eq_ (P := Tryz.prog) 9 28 5 Tryz.underlying9 Tryz.underlying28 Tryz.underlying5 s W
 clear h hl
 go_enter Tryz.func103, Tryz.ntmps103
 go_wp2_with fail
 refine HN.out.mono ?_
 rintro e W1 ⟨v1, rfl, hr, hk⟩
 have HR := aM_ hr
 have HK := aM_ hk
 clear hr hk HN
 have hbb : Az (Below W1.heap.size W1 (Lib.bytesWorld W1 5 s)) := ⟨nr_ (Below.refl _ _) (Nat.le_refl _) 5 s⟩
 have HC : Az (Kd.C (Kd.int .u8) (Lib.bytesWorld W1 5 s) (some ⟨W1.heap.size, 0, none⟩) s.size (fd_ s)) := ⟨Kd.C_of_reads (h1 := fun _ => rfl) (mr_ W1 5 s (by have := HL.out; omega))⟩
 have hkb1 := hkb W1
 clear hkb
 have hE : Az (bs ++ txt8 s = (bs ++ num8 s.size) ++ fd_ s) := ⟨by unfold txt8 ya_; simp⟩
 have HLL : Az ((bs ++ num8 (s.size : Int)).length + s.size ≤ 1000000000000) := ⟨by rw [List.length_append, za_]; have := HL.out; omega⟩
 generalize bs ++ num8 (s.size : Int) = cs at *
 generalize grownCap W1 s.size 0 5 = cap at *
 generalize Lib.bytesWorld W1 5 s = W2 at *
 go_wp2_with (at_builtin; go_loud (refine Kd.R_append_row (Value.int .u8) 0 (h1 := fun _ => rfl) (w0 := w0) w0.heap.size rfl (.tmp 8) (.tmp 10) 28 5 (.int .u8 0) 1 rfl Tryz.underlying28 zn_ rfl (by decide) v1 cs (fd_ s) (some ⟨W1.heap.size, 0, none⟩) s.size cap (fun _ => True) rfl rfl (fun _ _ => trivial) (Kd.R_below HR.out.1 hbb.out) HC.out (ga_ HR.out.2 hbb.out) (ga_ HR.out.2 hbb.out).size (by have := HLL.out; omega) ?_); intro v3 W3 ho hb hg hat)
 have HO : Az (Row5 w0 v3 (cs ++ fd_ s) W3) := ⟨⟨ho, hb⟩⟩
 have HK3 : Az (KeptT W W3) := ⟨fun g t c0 ht hgg => lb_ (oa_ (HK.out g t c0 ht hgg) hbb.out) hg (Kd.R_ne (Kd.R_below HR.out.1 hbb.out) (oa_ (HK.out g t c0 ht hgg) hbb.out) ht)⟩
 clear ho hb hg hat
 go_wp2
 go_ret
 rw [hE.out]
 exact ⟨_, rfl, HO.out, HK3.out⟩
def hc_ (l : List Int) : List Int := ya_ [(l.length : Int)] ++ ya_ l
def ent8 (e : S46) : List Int := txt8 e.f0 ++ ya_ [e.f1, e.f2]
def wb_ (r : S56) : List Int := ya_ [r.f0] ++ hc_ r.f1 ++ ya_ [r.f2.f0] ++ hc_ r.f2.f1 ++ ya_ [r.f3]
def kc_ (p : S48) : List Int := ya_ [p.f0] ++ txt8 p.f1 ++ ya_ [p.f2, p.f3, p.f4]
theorem bc_ (l : List Int) : (hc_ l).length = 8 + 8 * l.length := by
 unfold hc_
 rw [List.length_append, ta_, ta_]
 rfl
theorem numC (w0 : World) (A1 : Option Addr) (l : List Int) (g : Nat) (W : World) (h : Kd.C (Kd.int .i64) w0 A1 l.length l) : ∀ W', Kept8 g W W' → Below w0.heap.size w0 W' → Kd.C (Kd.int .i64) W' A1 l.length l := fun _ _ hb => Kd.C_below h hb
theorem ti_ (w0 : World) (g : Nat) (bs : List Int) (A1 : Option Addr) (c1 : Nat) (l : List Int) (W : World) (h : WrAt w0 g bs W) (hr1 : Kd.C (Kd.int .i64) w0 A1 l.length l) (hc1 : l.length ≤ c1) (hlen : bs.length + (hc_ l).length ≤ 1000000000000) :
  Calls Tryz.prog 123 #[.pointer (some ⟨g, 0, none⟩), .slice A1 l.length c1] W fun e W' => e = .returned (.tuple #[]) ∧ WrAt w0 g (bs ++ hc_ l) W' ∧ Kept8 g W W' := by
 have hl0 : (hc_ l).length = 8 + 8 * l.length := by exact bc_ l
 rw [hl0] at hlen
 obtain ⟨D0, hD0⟩ : ∃ D, D = bs := ⟨_, rfl⟩
 have HE : Az (bs ++ hc_ l = D0 ++ ya_ [(l.length : Int)] ++ ya_ l) := ⟨by rw [hD0]; unfold hc_; simp only [List.append_assoc]⟩
 have hd0 : D0.length = bs.length := by rw [hD0]
 rw [← hD0] at h
 have HW0 := aM_ h
 have HK0 := aM_ (Kept8.refl g W)
 have HLN := aM_ hlen
 have HD0 := aM_ hd0
 clear h hl0 hD0 hlen hd0
 go_enter Tryz.func123, Tryz.ntmps123
 go_wp2_with fail
 have hnum := xc_ w0 g D0 [(l.length : Int)] W HW0.out (by simp) (by rw [HD0.out]; have := HLN.out; first | omega | (simp only [List.length_cons, List.length_nil, Nat.zero_add, Nat.reduceAdd]; omega))
 refine hnum.mono ?_
 clear hnum
 rintro e w1 ⟨rfl, hW, hK⟩
 have HD1 : Az ((D0 ++ ya_ [(l.length : Int)]).length = bs.length + 8 * 1) := ⟨by first | (rw [List.length_append, HD0.out]; simp [ta_, ac_, bc_]; done) | rw [List.length_append, HD0.out]⟩
 generalize D0 ++ ya_ [(l.length : Int)] = D1 at *
 have HW1 := aM_ hW
 have HK1 := aM_ (HK0.out.trans hK)
 clear hW hK HW0 HK0
 go_wp2_with fail
 refine (rj_ w0 g D1 A1 c1 l w1 HW1.out (numC w0 _ _ g _ hr1) hc1 (by rw [HD1.out]; have := HLN.out; first | omega | (simp only [List.length_cons, List.length_nil, Nat.zero_add, Nat.reduceAdd]; omega))).mono ?_
 rintro e w2 ⟨rfl, hW, hK⟩
 have HD2 : Az ((D1 ++ ya_ l).length = bs.length + 8 * 1 + 8 * l.length) := ⟨by first | (rw [List.length_append, HD1.out]; simp [ta_, ac_, bc_]; done) | rw [List.length_append, HD1.out]⟩
 generalize D1 ++ ya_ l = D2 at *
 have HW2 := aM_ hW
 have HK2 := aM_ (HK1.out.trans hK)
 clear hW hK HW1 HK1
 go_wp2
 go_end0
 exact ⟨rfl, by rw [HE.out]; exact HW2.out, HK2.out⟩
theorem dr_ (w0 : World) (g : Nat) (bs : List Int) (x : S46) (W : World) (h : WrAt w0 g bs W)  (hlen : bs.length + (ent8 x).length ≤ 1000000000000) :
  Calls Tryz.prog 77 #[.pointer (some ⟨g, 0, none⟩), .agg #[.string x.f0, .int .i64 x.f1, .int .i64 x.f2]] W fun e W' => e = .returned (.tuple #[]) ∧ WrAt w0 g (bs ++ ent8 x) W' ∧ Kept8 g W W' := by
 have hl0 : (ent8 x).length = 8 + x.f0.size + 16 := by unfold ent8; rw [List.length_append, ac_, ta_]; rfl
 rw [hl0] at hlen
 obtain ⟨D0, hD0⟩ : ∃ D, D = bs := ⟨_, rfl⟩
 have HE : Az (bs ++ ent8 x = D0 ++ txt8 x.f0 ++ ya_ [x.f1, x.f2]) := ⟨by rw [hD0]; unfold ent8; simp only [List.append_assoc]⟩
 have hd0 : D0.length = bs.length := by rw [hD0]
 rw [← hD0] at h
 have HB0 : Az ((W.alloc (.cells #[.string x.f0, .int .i64 x.f1, .int .i64 x.f2] 46)).heap[W.heap.size]? = some (.cells #[.string x.f0, .int .i64 x.f1, .int .i64 x.f2] 46 (0, 0))) := ⟨ra_ W _⟩
 have HW0 : Az (WrAt w0 g D0 (W.alloc (.cells #[.string x.f0, .int .i64 x.f1, .int .i64 x.f2] 46))) := ⟨h.grow (aa_ (Below.refl _ _) _)⟩
 have HK0 : Az (Kept8 g W (W.alloc (.cells #[.string x.f0, .int .i64 x.f1, .int .i64 x.f2] 46))) := ⟨Kept8.below (aa_ (Below.refl _ _) _)⟩
 have hgb : W.heap.size ≠ g := by obtain ⟨_, _, hb, _⟩ := h.row; have := eb_ hb; omega
 have HGB := aM_ hgb
 clear hgb
 have HLN := aM_ hlen
 have HD0 := aM_ hd0
 clear h hl0 hD0 hlen hd0
 go_enter Tryz.func77, Tryz.ntmps77
 go_wp2_with fail
 refine (yi_ w0 g D0 x.f0 (W.alloc (.cells #[.string x.f0, .int .i64 x.f1, .int .i64 x.f2] 46)) HW0.out (by rw [HD0.out]; have := HLN.out; first | omega | (simp only [List.length_cons, List.length_nil, Nat.zero_add, Nat.reduceAdd]; omega))).mono ?_
 rintro e w1 ⟨rfl, hW, hK⟩
 have HD1 : Az ((D0 ++ txt8 x.f0).length = bs.length + (8 + x.f0.size)) := ⟨by first | (rw [List.length_append, HD0.out]; simp [ta_, ac_, bc_]; done) | rw [List.length_append, HD0.out]⟩
 generalize D0 ++ txt8 x.f0 = D1 at *
 have HW1 := aM_ hW
 have HK1 := aM_ (HK0.out.trans hK)
 have HB1 := aM_ (hK _ _ HB0.out HGB.out (fun cs z e => by injection e with _ e; exact absurd e (by decide)))
 clear hW hK HW0 HK0 HB0
 have hc1_0 := ba_ HB1.out 0
 have hc1_1 := ba_ HB1.out 1
 have hc1_2 := ba_ HB1.out 2
 go_wp2_with fail
 have hnum := xc_ w0 g D1 [x.f1, x.f2] w1 HW1.out (by simp) (by rw [HD1.out]; have := HLN.out; first | omega | (simp only [List.length_cons, List.length_nil, Nat.zero_add, Nat.reduceAdd]; omega))
 refine hnum.mono ?_
 clear hnum
 rintro e w2 ⟨rfl, hW, hK⟩
 have HD2 : Az ((D1 ++ ya_ [x.f1, x.f2]).length = bs.length + (8 + x.f0.size) + 8 * 2) := ⟨by first | (rw [List.length_append, HD1.out]; simp [ta_, ac_, bc_]; done) | rw [List.length_append, HD1.out]⟩
 generalize D1 ++ ya_ [x.f1, x.f2] = D2 at *
 have HW2 := aM_ hW
 have HK2 := aM_ (HK1.out.trans hK)
 have HB2 := aM_ (hK _ _ HB1.out HGB.out (fun cs z e => by injection e with _ e; exact absurd e (by decide)))
 clear hW hK HW1 HK1 HB1
 clear hc1_0 hc1_1 hc1_2
 go_wp2
 go_end0
 exact ⟨rfl, by rw [HE.out]; exact HW2.out, HK2.out⟩
theorem xp_ (w0 : World) (g : Nat) (bs : List Int) (x : S56) (A1 : Option Addr) (c1 : Nat) (A3 : Option Addr) (c3 : Nat) (W : World) (h : WrAt w0 g bs W) (hr1 : Kd.C (Kd.int .i64) w0 A1 x.f1.length x.f1) (hc1 : x.f1.length ≤ c1) (hr3 : Kd.C (Kd.int .i64) w0 A3 x.f2.f1.length x.f2.f1) (hc3 : x.f2.f1.length ≤ c3) (hlen : bs.length + (wb_ x).length ≤ 1000000000000) :
  Calls Tryz.prog 79 #[.pointer (some ⟨g, 0, none⟩), .agg #[.int .i64 x.f0, .slice A1 x.f1.length c1, .int .i64 x.f2.f0, .slice A3 x.f2.f1.length c3, .int .i64 x.f3]] W fun e W' => e = .returned (.tuple #[]) ∧ WrAt w0 g (bs ++ wb_ x) W' ∧ Kept8 g W W' := by
 have hl0 : (wb_ x).length = 8 + (8 + 8 * x.f1.length) + 8 + (8 + 8 * x.f2.f1.length) + 8 := by unfold wb_; simp only [List.length_append, bc_, ta_, List.length_cons, List.length_nil]
 rw [hl0] at hlen
 obtain ⟨D0, hD0⟩ : ∃ D, D = bs := ⟨_, rfl⟩
 have HE : Az (bs ++ wb_ x = D0 ++ ya_ [x.f0] ++ hc_ x.f1 ++ ya_ [x.f2.f0] ++ hc_ x.f2.f1 ++ ya_ [x.f3]) := ⟨by rw [hD0]; unfold wb_; simp only [List.append_assoc]⟩
 have hd0 : D0.length = bs.length := by rw [hD0]
 rw [← hD0] at h
 have HB0 : Az ((W.alloc (.cells #[.int .i64 x.f0, .slice A1 x.f1.length c1, .int .i64 x.f2.f0, .slice A3 x.f2.f1.length c3, .int .i64 x.f3] 56)).heap[W.heap.size]? = some (.cells #[.int .i64 x.f0, .slice A1 x.f1.length c1, .int .i64 x.f2.f0, .slice A3 x.f2.f1.length c3, .int .i64 x.f3] 56 (0, 0))) := ⟨ra_ W _⟩
 have HW0 : Az (WrAt w0 g D0 (W.alloc (.cells #[.int .i64 x.f0, .slice A1 x.f1.length c1, .int .i64 x.f2.f0, .slice A3 x.f2.f1.length c3, .int .i64 x.f3] 56))) := ⟨h.grow (aa_ (Below.refl _ _) _)⟩
 have HK0 : Az (Kept8 g W (W.alloc (.cells #[.int .i64 x.f0, .slice A1 x.f1.length c1, .int .i64 x.f2.f0, .slice A3 x.f2.f1.length c3, .int .i64 x.f3] 56))) := ⟨Kept8.below (aa_ (Below.refl _ _) _)⟩
 have hgb : W.heap.size ≠ g := by obtain ⟨_, _, hb, _⟩ := h.row; have := eb_ hb; omega
 have HGB := aM_ hgb
 clear hgb
 have HLN := aM_ hlen
 have HD0 := aM_ hd0
 clear h hl0 hD0 hlen hd0
 go_enter Tryz.func79, Tryz.ntmps79
 go_wp2_with fail
 have hnum := xc_ w0 g D0 [x.f0] (W.alloc (.cells #[.int .i64 x.f0, .slice A1 x.f1.length c1, .int .i64 x.f2.f0, .slice A3 x.f2.f1.length c3, .int .i64 x.f3] 56)) HW0.out (by simp) (by rw [HD0.out]; have := HLN.out; first | omega | (simp only [List.length_cons, List.length_nil, Nat.zero_add, Nat.reduceAdd]; omega))
 rw [show (W.alloc (.cells #[.int .i64 x.f0, .slice A1 x.f1.length c1, .int .i64 x.f2.f0, .slice A3 x.f2.f1.length c3, .int .i64 x.f3] 56)).heap.size = W.heap.size + 1 by simp] at hnum
 refine hnum.mono ?_
 clear hnum
 rintro e w1 ⟨rfl, hW, hK⟩
 have HD1 : Az ((D0 ++ ya_ [x.f0]).length = bs.length + 8 * 1) := ⟨by first | (rw [List.length_append, HD0.out]; simp [ta_, ac_, bc_]; done) | rw [List.length_append, HD0.out]⟩
 generalize D0 ++ ya_ [x.f0] = D1 at *
 have HW1 := aM_ hW
 have HK1 := aM_ (HK0.out.trans hK)
 have HB1 := aM_ (hK _ _ HB0.out HGB.out (fun cs z e => by injection e with _ e; exact absurd e (by decide)))
 clear hW hK HW0 HK0 HB0
 have hc1_0 := ba_ HB1.out 0
 have hc1_1 := ba_ HB1.out 1
 have hc1_2 := ba_ HB1.out 2
 have hc1_3 := ba_ HB1.out 3
 have hc1_4 := ba_ HB1.out 4
 go_wp2_with fail
 refine (ti_ w0 g D1 A1 c1 x.f1 w1 HW1.out hr1 hc1 (by rw [bc_]; rw [HD1.out]; have := HLN.out; first | omega | (simp only [List.length_cons, List.length_nil, Nat.zero_add, Nat.reduceAdd]; omega))).mono ?_
 rintro e w2 ⟨rfl, hW, hK⟩
 have HD2 : Az ((D1 ++ hc_ x.f1).length = bs.length + 8 * 1 + (8 + 8 * x.f1.length)) := ⟨by first | (rw [List.length_append, HD1.out]; simp [ta_, ac_, bc_]; done) | rw [List.length_append, HD1.out]⟩
 generalize D1 ++ hc_ x.f1 = D2 at *
 have HW2 := aM_ hW
 have HK2 := aM_ (HK1.out.trans hK)
 have HB2 := aM_ (hK _ _ HB1.out HGB.out (fun cs z e => by injection e with _ e; exact absurd e (by decide)))
 clear hW hK HW1 HK1 HB1
 clear hc1_0 hc1_1 hc1_2 hc1_3 hc1_4
 have hc2_0 := ba_ HB2.out 0
 have hc2_1 := ba_ HB2.out 1
 have hc2_2 := ba_ HB2.out 2
 have hc2_3 := ba_ HB2.out 3
 have hc2_4 := ba_ HB2.out 4
 go_wp2_with fail
 have hnum := xc_ w0 g D2 [x.f2.f0] w2 HW2.out (by simp) (by rw [HD2.out]; have := HLN.out; first | omega | (simp only [List.length_cons, List.length_nil, Nat.zero_add, Nat.reduceAdd]; omega))
 refine hnum.mono ?_
 clear hnum
 rintro e w3 ⟨rfl, hW, hK⟩
 have HD3 : Az ((D2 ++ ya_ [x.f2.f0]).length = bs.length + 8 * 1 + (8 + 8 * x.f1.length) + 8 * 1) := ⟨by first | (rw [List.length_append, HD2.out]; simp [ta_, ac_, bc_]; done) | rw [List.length_append, HD2.out]⟩
 generalize D2 ++ ya_ [x.f2.f0] = D3 at *
 have HW3 := aM_ hW
 have HK3 := aM_ (HK2.out.trans hK)
 have HB3 := aM_ (hK _ _ HB2.out HGB.out (fun cs z e => by injection e with _ e; exact absurd e (by decide)))
 clear hW hK HW2 HK2 HB2
 clear hc2_0 hc2_1 hc2_2 hc2_3 hc2_4
 have hc3_0 := ba_ HB3.out 0
 have hc3_1 := ba_ HB3.out 1
 have hc3_2 := ba_ HB3.out 2
 have hc3_3 := ba_ HB3.out 3
 have hc3_4 := ba_ HB3.out 4
 go_wp2_with fail
 refine (ti_ w0 g D3 A3 c3 x.f2.f1 w3 HW3.out hr3 hc3 (by rw [bc_]; rw [HD3.out]; have := HLN.out; first | omega | (simp only [List.length_cons, List.length_nil, Nat.zero_add, Nat.reduceAdd]; omega))).mono ?_
 rintro e w4 ⟨rfl, hW, hK⟩
 have HD4 : Az ((D3 ++ hc_ x.f2.f1).length = bs.length + 8 * 1 + (8 + 8 * x.f1.length) + 8 * 1 + (8 + 8 * x.f2.f1.length)) := ⟨by first | (rw [List.length_append, HD3.out]; simp [ta_, ac_, bc_]; done) | rw [List.length_append, HD3.out]⟩
 generalize D3 ++ hc_ x.f2.f1 = D4 at *
 have HW4 := aM_ hW
 have HK4 := aM_ (HK3.out.trans hK)
 have HB4 := aM_ (hK _ _ HB3.out HGB.out (fun cs z e => by injection e with _ e; exact absurd e (by decide)))
 clear hW hK HW3 HK3 HB3
 clear hc3_0 hc3_1 hc3_2 hc3_3 hc3_4
 have hc4_0 := ba_ HB4.out 0
 have hc4_1 := ba_ HB4.out 1
 have hc4_2 := ba_ HB4.out 2
 have hc4_3 := ba_ HB4.out 3
 have hc4_4 := ba_ HB4.out 4
 go_wp2_with fail
 have hnum := xc_ w0 g D4 [x.f3] w4 HW4.out (by simp) (by rw [HD4.out]; have := HLN.out; first | omega | (simp only [List.length_cons, List.length_nil, Nat.zero_add, Nat.reduceAdd]; omega))
 refine hnum.mono ?_
 clear hnum
 rintro e w5 ⟨rfl, hW, hK⟩
 have HD5 : Az ((D4 ++ ya_ [x.f3]).length = bs.length + 8 * 1 + (8 + 8 * x.f1.length) + 8 * 1 + (8 + 8 * x.f2.f1.length) + 8 * 1) := ⟨by first | (rw [List.length_append, HD4.out]; simp [ta_, ac_, bc_]; done) | rw [List.length_append, HD4.out]⟩
 generalize D4 ++ ya_ [x.f3] = D5 at *
 have HW5 := aM_ hW
 have HK5 := aM_ (HK4.out.trans hK)
 have HB5 := aM_ (hK _ _ HB4.out HGB.out (fun cs z e => by injection e with _ e; exact absurd e (by decide)))
 clear hW hK HW4 HK4 HB4
 clear hc4_0 hc4_1 hc4_2 hc4_3 hc4_4
 go_wp2
 go_end0
 exact ⟨rfl, by rw [HE.out]; exact HW5.out, HK5.out⟩
theorem bs_ (w0 : World) (g : Nat) (bs : List Int) (x : S48) (W : World) (h : WrAt w0 g bs W)  (hlen : bs.length + (kc_ x).length ≤ 1000000000000) :
  Calls Tryz.prog 125 #[.pointer (some ⟨g, 0, none⟩), .agg #[.int .i64 x.f0, .string x.f1, .int .i64 x.f2, .int .i64 x.f3, .int .i64 x.f4]] W fun e W' => e = .returned (.tuple #[]) ∧ WrAt w0 g (bs ++ kc_ x) W' ∧ Kept8 g W W' := by
 have hl0 : (kc_ x).length = 8 + (8 + x.f1.size) + 24 := by unfold kc_; simp only [List.length_append, ac_, ta_, List.length_cons, List.length_nil]
 rw [hl0] at hlen
 obtain ⟨D0, hD0⟩ : ∃ D, D = bs := ⟨_, rfl⟩
 have HE : Az (bs ++ kc_ x = D0 ++ ya_ [x.f0] ++ txt8 x.f1 ++ ya_ [x.f2, x.f3, x.f4]) := ⟨by rw [hD0]; unfold kc_; simp only [List.append_assoc]⟩
 have hd0 : D0.length = bs.length := by rw [hD0]
 rw [← hD0] at h
 have HB0 : Az ((W.alloc (.cells #[.int .i64 x.f0, .string x.f1, .int .i64 x.f2, .int .i64 x.f3, .int .i64 x.f4] 48)).heap[W.heap.size]? = some (.cells #[.int .i64 x.f0, .string x.f1, .int .i64 x.f2, .int .i64 x.f3, .int .i64 x.f4] 48 (0, 0))) := ⟨ra_ W _⟩
 have HW0 : Az (WrAt w0 g D0 (W.alloc (.cells #[.int .i64 x.f0, .string x.f1, .int .i64 x.f2, .int .i64 x.f3, .int .i64 x.f4] 48))) := ⟨h.grow (aa_ (Below.refl _ _) _)⟩
 have HK0 : Az (Kept8 g W (W.alloc (.cells #[.int .i64 x.f0, .string x.f1, .int .i64 x.f2, .int .i64 x.f3, .int .i64 x.f4] 48))) := ⟨Kept8.below (aa_ (Below.refl _ _) _)⟩
 have hgb : W.heap.size ≠ g := by obtain ⟨_, _, hb, _⟩ := h.row; have := eb_ hb; omega
 have HGB := aM_ hgb
 clear hgb
 have HLN := aM_ hlen
 have HD0 := aM_ hd0
 clear h hl0 hD0 hlen hd0
 go_enter Tryz.func125, Tryz.ntmps125
 go_wp2_with fail
 have hnum := xc_ w0 g D0 [x.f0] (W.alloc (.cells #[.int .i64 x.f0, .string x.f1, .int .i64 x.f2, .int .i64 x.f3, .int .i64 x.f4] 48)) HW0.out (by simp) (by rw [HD0.out]; have := HLN.out; first | omega | (simp only [List.length_cons, List.length_nil, Nat.zero_add, Nat.reduceAdd]; omega))
 rw [show (W.alloc (.cells #[.int .i64 x.f0, .string x.f1, .int .i64 x.f2, .int .i64 x.f3, .int .i64 x.f4] 48)).heap.size = W.heap.size + 1 by simp] at hnum
 refine hnum.mono ?_
 clear hnum
 rintro e w1 ⟨rfl, hW, hK⟩
 have HD1 : Az ((D0 ++ ya_ [x.f0]).length = bs.length + 8 * 1) := ⟨by first | (rw [List.length_append, HD0.out]; simp [ta_, ac_, bc_]; done) | rw [List.length_append, HD0.out]⟩
 generalize D0 ++ ya_ [x.f0] = D1 at *
 have HW1 := aM_ hW
 have HK1 := aM_ (HK0.out.trans hK)
 have HB1 := aM_ (hK _ _ HB0.out HGB.out (fun cs z e => by injection e with _ e; exact absurd e (by decide)))
 clear hW hK HW0 HK0 HB0
 have hc1_0 := ba_ HB1.out 0
 have hc1_1 := ba_ HB1.out 1
 have hc1_2 := ba_ HB1.out 2
 have hc1_3 := ba_ HB1.out 3
 have hc1_4 := ba_ HB1.out 4
 go_wp2_with fail
 refine (yi_ w0 g D1 x.f1 w1 HW1.out (by rw [HD1.out]; have := HLN.out; first | omega | (simp only [List.length_cons, List.length_nil, Nat.zero_add, Nat.reduceAdd]; omega))).mono ?_
 rintro e w2 ⟨rfl, hW, hK⟩
 have HD2 : Az ((D1 ++ txt8 x.f1).length = bs.length + 8 * 1 + (8 + x.f1.size)) := ⟨by first | (rw [List.length_append, HD1.out]; simp [ta_, ac_, bc_]; done) | rw [List.length_append, HD1.out]⟩
 generalize D1 ++ txt8 x.f1 = D2 at *
 have HW2 := aM_ hW
 have HK2 := aM_ (HK1.out.trans hK)
 have HB2 := aM_ (hK _ _ HB1.out HGB.out (fun cs z e => by injection e with _ e; exact absurd e (by decide)))
 clear hW hK HW1 HK1 HB1
 clear hc1_0 hc1_1 hc1_2 hc1_3 hc1_4
 have hc2_0 := ba_ HB2.out 0
 have hc2_1 := ba_ HB2.out 1
 have hc2_2 := ba_ HB2.out 2
 have hc2_3 := ba_ HB2.out 3
 have hc2_4 := ba_ HB2.out 4
 go_wp2_with fail
 have hnum := xc_ w0 g D2 [x.f2, x.f3, x.f4] w2 HW2.out (by simp) (by rw [HD2.out]; have := HLN.out; first | omega | (simp only [List.length_cons, List.length_nil, Nat.zero_add, Nat.reduceAdd]; omega))
 refine hnum.mono ?_
 clear hnum
 rintro e w3 ⟨rfl, hW, hK⟩
 have HD3 : Az ((D2 ++ ya_ [x.f2, x.f3, x.f4]).length = bs.length + 8 * 1 + (8 + x.f1.size) + 8 * 3) := ⟨by first | (rw [List.length_append, HD2.out]; simp [ta_, ac_, bc_]; done) | rw [List.length_append, HD2.out]⟩
 generalize D2 ++ ya_ [x.f2, x.f3, x.f4] = D3 at *
 have HW3 := aM_ hW
 have HK3 := aM_ (HK2.out.trans hK)
 have HB3 := aM_ (hK _ _ HB2.out HGB.out (fun cs z e => by injection e with _ e; exact absurd e (by decide)))
 clear hW hK HW2 HK2 HB2
 clear hc2_0 hc2_1 hc2_2 hc2_3 hc2_4
 go_wp2
 go_end0
 exact ⟨rfl, by rw [HE.out]; exact HW3.out, HK3.out⟩
def bb_ {α : Type} (f : α → List Int) (l : List α) : List Int := ya_ [(l.length : Int)] ++ l.flatMap f
theorem pd_ {α : Type} (f : α → List Int) (l : List α) (i : Nat) (hi : i < l.length) : (l.take (i + 1)).flatMap f = (l.take i).flatMap f ++ f l[i] := by
 rw [List.take_succ_eq_append_getElem hi, List.flatMap_append]
 simp
theorem df_ {α : Type} (f : α → List Int) (l : List α) (i : Nat) (hi : i < l.length) : ((l.take i).flatMap f).length + (f l[i]).length ≤ (l.flatMap f).length := by
 have h1 := pd_ f l i hi
 have h2 : l.flatMap f = (l.take (i + 1)).flatMap f ++ (l.drop (i + 1)).flatMap f := by rw [← List.flatMap_append, List.take_append_drop]
 rw [h2, h1, List.length_append, List.length_append]
 omega
theorem ts_ (w0 : World) (g : Nat) (bs : List Int) (A : Option Addr) (c : Nat) (l : List S46) (W : World) (h : WrAt w0 g bs W) (hr : Kd.C k46 w0 A l.length l) (hc : l.length ≤ c) (hlen : bs.length + (bb_ ent8 l).length ≤ 1000000000000) :
  Calls Tryz.prog 76 #[.pointer (some ⟨g, 0, none⟩), .slice A l.length c, .func (.func 77) #[.pointer (some ⟨g, 0, none⟩)] #[]] W fun e W' => e = .returned (.tuple #[]) ∧ WrAt w0 g (bs ++ bb_ ent8 l) W' ∧ Kept8 g W W' := by
 have hl0 : (bb_ ent8 l).length = 8 + (l.flatMap ent8).length := by unfold bb_; rw [List.length_append, ta_]; rfl
 rw [hl0] at hlen
 have hnum := xc_ w0 g bs [(l.length : Int)] W h (by simp) (by simp; omega)
 have HN := aM_ hnum
 have HLN := aM_ hlen
 have HR := aM_ hr
 have hbn : l.length ≤ 9223372036854775807 := hr.2.1
 have HE : Az (bs ++ bb_ ent8 l = bs ++ ya_ [(l.length : Int)] ++ (l.take l.length).flatMap ent8) := ⟨by rw [List.take_length]; unfold bb_; rw [List.append_assoc]⟩
 clear hnum h hlen hl0 hr
 go_enter Tryz.func76, Tryz.ntmps76
 go_wp2_with fail
 refine HN.out.mono ?_
 rintro e w1 ⟨rfl, hW, hK⟩
 have HD : Az ((bs ++ ya_ [(l.length : Int)]).length = bs.length + 8) := ⟨by rw [List.length_append, ta_]; rfl⟩
 generalize bs ++ ya_ [(l.length : Int)] = D at *
 have HW0 : Az (WrAt w0 g (D ++ (l.take 0).flatMap ent8) w1) := ⟨by rw [List.take_zero]; show WrAt w0 g (D ++ []) w1; rw [List.append_nil]; exact hW⟩
 have HK0 := aM_ hK
 clear hW hK HN
 go_wp2
 go_loopg [15] l.length (fun gg s15 wr => ∃ i : Nat, i ≤ l.length ∧ l.length - i ≤ gg ∧ s15 = .int .i64 i ∧ Az (WrAt w0 g (D ++ (l.take i).flatMap ent8) wr) ∧ Az (Kept8 g W wr))
 case atStart => exact ⟨0, by omega, by omega, rfl, HW0, HK0⟩
 clear HW0 HK0
 obtain ⟨i, hi, hgg, rfl, HW, HK⟩ := hrel
 by_cases hil : i < l.length
 ·have hilz : (i : Int) < (l.length : Int) := by omega
  obtain ⟨ad, hA, h0, h1, h2⟩ := nt_ HR.out (i : Int) (by omega) hilz; subst hA
  have hy : ye_ l (i : Int) = l[i] := by
   show l.getD (i : Int).toNat _ = _; rw [Int.toNat_natCast, List.getD_eq_getElem?_getD, List.getElem?_eq_getElem hil]; rfl
  have hsn := pd_ ent8 l i hil; have hle := df_ ent8 l i hil; rw [← hy] at hsn hle; generalize ye_ l (i : Int) = y at *; rw [Int.toNat_natCast] at h0 h1 h2; replace h0 := ha_ HW.out.below h0; replace h1 := ha_ HW.out.below h1; replace h2 := ha_ HW.out.below h2; have HSN := aM_ hsn; have hlb : (D ++ (l.take i).flatMap ent8).length + (ent8 y).length ≤ 1000000000000 := by rw [List.length_append, HD.out]; have := HLN.out; omega
  have HLB := aM_ hlb; have HW1 := aM_ (HW.out.grow (aa_ (Below.refl _ _) (.cells #[.string y.f0, .int .i64 y.f1, .int .i64 y.f2] 46))); have HK1 := aM_ (HK.out.trans (Kept8.below (g := g) (aa_ (Below.refl wr.heap.size wr) (.cells #[.string y.f0, .int .i64 y.f1, .int .i64 y.f2] 46)))); obtain ⟨E, hE⟩ : ∃ E, E = D ++ (l.take i).flatMap ent8 := ⟨_, rfl⟩; rw [← hE] at HW1 HLB; have HEE := aM_ hE; clear hy hsn hle hlb HW HK hE
  go_wp2_with fail
  refine (dr_ w0 g E y _ HW1.out HLB.out).mono ?_; rintro e w2 ⟨rfl, hW, hK⟩; have HW2 : Az (WrAt w0 g (D ++ (l.take (i + 1)).flatMap ent8) w2) := ⟨by rw [HSN.out, ← List.append_assoc, ← HEE.out]; exact hW⟩; have HK2 := aM_ (HK1.out.trans hK); clear hW hK HW1 HK1 h0 h1 h2
  go_wp2
  go_roundg (l.length - (i + 1))
  case measure => omega
  case rel => exact ⟨i + 1, by omega, by omega, by go_num, HW2, HK2⟩
 have he : i = l.length := by omega
 have hilz : decide ((i : Int) < (l.length : Int)) = false := by simp; omega
 rw [he] at HW
 clear he
 go_wp2
 go_end0
 exact ⟨rfl, by rw [HE.out]; exact HW.out, HK.out⟩
theorem qs_ (w0 : World) (g : Nat) (bs : List Int) (A : Option Addr) (c : Nat) (l : List S56) (W : World) (h : WrAt w0 g bs W) (hr : Kd.C k56 w0 A l.length l) (hc : l.length ≤ c) (hlen : bs.length + (bb_ wb_ l).length ≤ 1000000000000) :
  Calls Tryz.prog 78 #[.pointer (some ⟨g, 0, none⟩), .slice A l.length c, .func (.func 79) #[.pointer (some ⟨g, 0, none⟩)] #[]] W fun e W' => e = .returned (.tuple #[]) ∧ WrAt w0 g (bs ++ bb_ wb_ l) W' ∧ Kept8 g W W' := by
 have hl0 : (bb_ wb_ l).length = 8 + (l.flatMap wb_).length := by unfold bb_; rw [List.length_append, ta_]; rfl
 rw [hl0] at hlen
 have hnum := xc_ w0 g bs [(l.length : Int)] W h (by simp) (by simp; omega)
 have HN := aM_ hnum
 have HLN := aM_ hlen
 have HR := aM_ hr
 have hbn : l.length ≤ 9223372036854775807 := hr.2.1
 have HE : Az (bs ++ bb_ wb_ l = bs ++ ya_ [(l.length : Int)] ++ (l.take l.length).flatMap wb_) := ⟨by rw [List.take_length]; unfold bb_; rw [List.append_assoc]⟩
 clear hnum h hlen hl0 hr
 go_enter Tryz.func78, Tryz.ntmps78
 go_wp2_with fail
 refine HN.out.mono ?_
 rintro e w1 ⟨rfl, hW, hK⟩
 have HD : Az ((bs ++ ya_ [(l.length : Int)]).length = bs.length + 8) := ⟨by rw [List.length_append, ta_]; rfl⟩
 generalize bs ++ ya_ [(l.length : Int)] = D at *
 have HW0 : Az (WrAt w0 g (D ++ (l.take 0).flatMap wb_) w1) := ⟨by rw [List.take_zero]; show WrAt w0 g (D ++ []) w1; rw [List.append_nil]; exact hW⟩
 have HK0 := aM_ hK
 clear hW hK HN
 go_wp2
 go_loopg [15] l.length (fun gg s15 wr => ∃ i : Nat, i ≤ l.length ∧ l.length - i ≤ gg ∧ s15 = .int .i64 i ∧ Az (WrAt w0 g (D ++ (l.take i).flatMap wb_) wr) ∧ Az (Kept8 g W wr))
 case atStart => exact ⟨0, by omega, by omega, rfl, HW0, HK0⟩
 clear HW0 HK0
 obtain ⟨i, hi, hgg, rfl, HW, HK⟩ := hrel
 by_cases hil : i < l.length
 ·have hilz : (i : Int) < (l.length : Int) := by omega
  obtain ⟨ad, A1, c1, A3, c3, hA, h0, h1, h2, h3, h4, l1, g1, l3, g3⟩ := sk_ HR.out (i : Int) (by omega) hilz; subst hA
  have hy : ic_ l (i : Int) = l[i] := by
   show l.getD (i : Int).toNat _ = _; rw [Int.toNat_natCast, List.getD_eq_getElem?_getD, List.getElem?_eq_getElem hil]; rfl
  have hsn := pd_ wb_ l i hil; have hle := df_ wb_ l i hil; rw [← hy] at hsn hle; generalize ic_ l (i : Int) = y at *; rw [Int.toNat_natCast] at h0 h1 h2 h3 h4; replace h0 := ha_ HW.out.below h0; replace h1 := ha_ HW.out.below h1; replace h2 := ha_ HW.out.below h2; replace h3 := ha_ HW.out.below h3; replace h4 := ha_ HW.out.below h4; have HSN := aM_ hsn; have hlb : (D ++ (l.take i).flatMap wb_).length + (wb_ y).length ≤ 1000000000000 := by rw [List.length_append, HD.out]; have := HLN.out; omega
  have HLB := aM_ hlb; have HW1 := aM_ (HW.out.grow (aa_ (Below.refl _ _) (.cells #[.int .i64 y.f0, .slice A1 y.f1.length c1, .int .i64 y.f2.f0, .slice A3 y.f2.f1.length c3, .int .i64 y.f3] 56))); have HK1 := aM_ (HK.out.trans (Kept8.below (g := g) (aa_ (Below.refl wr.heap.size wr) (.cells #[.int .i64 y.f0, .slice A1 y.f1.length c1, .int .i64 y.f2.f0, .slice A3 y.f2.f1.length c3, .int .i64 y.f3] 56)))); obtain ⟨E, hE⟩ : ∃ E, E = D ++ (l.take i).flatMap wb_ := ⟨_, rfl⟩; rw [← hE] at HW1 HLB; have HEE := aM_ hE; clear hy hsn hle hlb HW HK hE
  go_wp2_with fail
  refine (xp_ w0 g E y A1 c1 A3 c3 _ HW1.out g1 l1 g3 l3 HLB.out).mono ?_; rintro e w2 ⟨rfl, hW, hK⟩; have HW2 : Az (WrAt w0 g (D ++ (l.take (i + 1)).flatMap wb_) w2) := ⟨by rw [HSN.out, ← List.append_assoc, ← HEE.out]; exact hW⟩; have HK2 := aM_ (HK1.out.trans hK); clear hW hK HW1 HK1 h0 h1 h2 h3 h4
  go_wp2
  go_roundg (l.length - (i + 1))
  case measure => omega
  case rel => exact ⟨i + 1, by omega, by omega, by go_num, HW2, HK2⟩
 have he : i = l.length := by omega
 have hilz : decide ((i : Int) < (l.length : Int)) = false := by simp; omega
 rw [he] at HW
 clear he
 go_wp2
 go_end0
 exact ⟨rfl, by rw [HE.out]; exact HW.out, HK.out⟩
theorem rs_ (w0 : World) (g : Nat) (bs : List Int) (A : Option Addr) (c : Nat) (l : List S48) (W : World) (h : WrAt w0 g bs W) (hr : Kd.C k48 w0 A l.length l) (hc : l.length ≤ c) (hlen : bs.length + (bb_ kc_ l).length ≤ 1000000000000) :
  Calls Tryz.prog 124 #[.pointer (some ⟨g, 0, none⟩), .slice A l.length c, .func (.func 125) #[.pointer (some ⟨g, 0, none⟩)] #[]] W fun e W' => e = .returned (.tuple #[]) ∧ WrAt w0 g (bs ++ bb_ kc_ l) W' ∧ Kept8 g W W' := by
 have hl0 : (bb_ kc_ l).length = 8 + (l.flatMap kc_).length := by unfold bb_; rw [List.length_append, ta_]; rfl
 rw [hl0] at hlen
 have hnum := xc_ w0 g bs [(l.length : Int)] W h (by simp) (by simp; omega)
 have HN := aM_ hnum
 have HLN := aM_ hlen
 have HR := aM_ hr
 have hbn : l.length ≤ 9223372036854775807 := hr.2.1
 have HE : Az (bs ++ bb_ kc_ l = bs ++ ya_ [(l.length : Int)] ++ (l.take l.length).flatMap kc_) := ⟨by rw [List.take_length]; unfold bb_; rw [List.append_assoc]⟩
 clear hnum h hlen hl0 hr
 go_enter Tryz.func124, Tryz.ntmps124
 go_wp2_with fail
 refine HN.out.mono ?_
 rintro e w1 ⟨rfl, hW, hK⟩
 have HD : Az ((bs ++ ya_ [(l.length : Int)]).length = bs.length + 8) := ⟨by rw [List.length_append, ta_]; rfl⟩
 generalize bs ++ ya_ [(l.length : Int)] = D at *
 have HW0 : Az (WrAt w0 g (D ++ (l.take 0).flatMap kc_) w1) := ⟨by rw [List.take_zero]; show WrAt w0 g (D ++ []) w1; rw [List.append_nil]; exact hW⟩
 have HK0 := aM_ hK
 clear hW hK HN
 go_wp2
 go_loopg [15] l.length (fun gg s15 wr => ∃ i : Nat, i ≤ l.length ∧ l.length - i ≤ gg ∧ s15 = .int .i64 i ∧ Az (WrAt w0 g (D ++ (l.take i).flatMap kc_) wr) ∧ Az (Kept8 g W wr))
 case atStart => exact ⟨0, by omega, by omega, rfl, HW0, HK0⟩
 clear HW0 HK0
 obtain ⟨i, hi, hgg, rfl, HW, HK⟩ := hrel
 by_cases hil : i < l.length
 ·have hilz : (i : Int) < (l.length : Int) := by omega
  obtain ⟨ad, hA, h0, h1, h2, h3, h4⟩ := mt_ HR.out (i : Int) (by omega) hilz; subst hA
  have hy : td_ l (i : Int) = l[i] := by
   show l.getD (i : Int).toNat _ = _; rw [Int.toNat_natCast, List.getD_eq_getElem?_getD, List.getElem?_eq_getElem hil]; rfl
  have hsn := pd_ kc_ l i hil; have hle := df_ kc_ l i hil; rw [← hy] at hsn hle; generalize td_ l (i : Int) = y at *; rw [Int.toNat_natCast] at h0 h1 h2 h3 h4; replace h0 := ha_ HW.out.below h0; replace h1 := ha_ HW.out.below h1; replace h2 := ha_ HW.out.below h2; replace h3 := ha_ HW.out.below h3; replace h4 := ha_ HW.out.below h4; have HSN := aM_ hsn; have hlb : (D ++ (l.take i).flatMap kc_).length + (kc_ y).length ≤ 1000000000000 := by rw [List.length_append, HD.out]; have := HLN.out; omega
  have HLB := aM_ hlb; have HW1 := aM_ (HW.out.grow (aa_ (Below.refl _ _) (.cells #[.int .i64 y.f0, .string y.f1, .int .i64 y.f2, .int .i64 y.f3, .int .i64 y.f4] 48))); have HK1 := aM_ (HK.out.trans (Kept8.below (g := g) (aa_ (Below.refl wr.heap.size wr) (.cells #[.int .i64 y.f0, .string y.f1, .int .i64 y.f2, .int .i64 y.f3, .int .i64 y.f4] 48)))); obtain ⟨E, hE⟩ : ∃ E, E = D ++ (l.take i).flatMap kc_ := ⟨_, rfl⟩; rw [← hE] at HW1 HLB; have HEE := aM_ hE; clear hy hsn hle hlb HW HK hE
  go_wp2_with fail
  refine (bs_ w0 g E y _ HW1.out HLB.out).mono ?_; rintro e w2 ⟨rfl, hW, hK⟩; have HW2 : Az (WrAt w0 g (D ++ (l.take (i + 1)).flatMap kc_) w2) := ⟨by rw [HSN.out, ← List.append_assoc, ← HEE.out]; exact hW⟩; have HK2 := aM_ (HK1.out.trans hK); clear hW hK HW1 HK1 h0 h1 h2 h3 h4
  go_wp2
  go_roundg (l.length - (i + 1))
  case measure => omega
  case rel => exact ⟨i + 1, by omega, by omega, by go_num, HW2, HK2⟩
 have he : i = l.length := by omega
 have hilz : decide ((i : Int) < (l.length : Int)) = false := by simp; omega
 rw [he] at HW
 clear he
 go_wp2
 go_end0
 exact ⟨rfl, by rw [HE.out]; exact HW.out, HK.out⟩
def ib_ (s : S52) : List Int := ya_ [s.f0] ++ bb_ kc_ s.f1
def loc8 (x : S44) : List Int := txt8 x.f0 ++ ya_ [x.f1, x.f2] ++ bb_ ent8 x.f3 ++ bb_ wb_ x.f4 ++ bb_ ib_ x.f5
theorem rp_ (w0 : World) (g : Nat) (bs : List Int) (x : S52) (A1 : Option Addr) (c1 : Nat) (W : World) (h : WrAt w0 g bs W) (hr1 : Kd.C k48 w0 A1 x.f1.length x.f1) (hc1 : x.f1.length ≤ c1) (hlen : bs.length + (ib_ x).length ≤ 1000000000000) :
  Calls Tryz.prog 81 #[.pointer (some ⟨g, 0, none⟩), .agg #[.int .i64 x.f0, .slice A1 x.f1.length c1]] W fun e W' => e = .returned (.tuple #[]) ∧ WrAt w0 g (bs ++ ib_ x) W' ∧ Kept8 g W W' := by
 have hl0 : (ib_ x).length = 8 + (bb_ kc_ x.f1).length := by unfold ib_; rw [List.length_append, ta_]; rfl
 rw [hl0] at hlen
 obtain ⟨D0, hD0⟩ : ∃ D, D = bs := ⟨_, rfl⟩
 have HE : Az (bs ++ ib_ x = D0 ++ ya_ [x.f0] ++ bb_ kc_ x.f1) := ⟨by rw [hD0]; unfold ib_; simp only [List.append_assoc]⟩
 have hd0 : D0.length = bs.length := by rw [hD0]
 rw [← hD0] at h
 have HB0 : Az ((W.alloc (.cells #[.int .i64 x.f0, .slice A1 x.f1.length c1] 52)).heap[W.heap.size]? = some (.cells #[.int .i64 x.f0, .slice A1 x.f1.length c1] 52 (0, 0))) := ⟨ra_ W _⟩
 have HW0 : Az (WrAt w0 g D0 (W.alloc (.cells #[.int .i64 x.f0, .slice A1 x.f1.length c1] 52))) := ⟨h.grow (aa_ (Below.refl _ _) _)⟩
 have HK0 : Az (Kept8 g W (W.alloc (.cells #[.int .i64 x.f0, .slice A1 x.f1.length c1] 52))) := ⟨Kept8.below (aa_ (Below.refl _ _) _)⟩
 have hgb : W.heap.size ≠ g := by obtain ⟨_, _, hb, _⟩ := h.row; have := eb_ hb; omega
 have HGB := aM_ hgb
 clear hgb
 have HLN := aM_ hlen
 have HD0 := aM_ hd0
 clear h hl0 hD0 hlen hd0
 have hmf : ∀ (fn : Fn) (first cap : Array Value) (w : World), (Instr.makeFunc fn first cap).run Tryz.prog w = .ok (.func fn first cap) w := fun _ _ _ _ => rfl
 go_enter Tryz.func81, Tryz.ntmps81
 go_wp2_with fail
 have hnum := xc_ w0 g D0 [x.f0] (W.alloc (.cells #[.int .i64 x.f0, .slice A1 x.f1.length c1] 52)) HW0.out (by simp) (by rw [HD0.out]; have := HLN.out; first | omega | (simp only [List.length_cons, List.length_nil, Nat.zero_add, Nat.reduceAdd]; omega))
 rw [show (W.alloc (.cells #[.int .i64 x.f0, .slice A1 x.f1.length c1] 52)).heap.size = W.heap.size + 1 by simp] at hnum
 refine hnum.mono ?_
 clear hnum
 rintro e w1 ⟨rfl, hW, hK⟩
 have HD1 : Az ((D0 ++ ya_ [x.f0]).length = bs.length + 8 * 1) := ⟨by first | (rw [List.length_append, HD0.out]; simp [ta_, ac_, bc_]; done) | rw [List.length_append, HD0.out]⟩
 generalize D0 ++ ya_ [x.f0] = D1 at *
 have HW1 := aM_ hW
 have HK1 := aM_ (HK0.out.trans hK)
 have HB1 := aM_ (hK _ _ HB0.out HGB.out (fun cs z e => by injection e with _ e; exact absurd e (by decide)))
 clear hW hK HW0 HK0 HB0
 have hc1_0 := ba_ HB1.out 0
 have hc1_1 := ba_ HB1.out 1
 go_wp2_with fail
 refine (rs_ w0 g D1 A1 c1 x.f1 w1 HW1.out hr1 hc1 (by rw [HD1.out]; have := HLN.out; first | omega | (simp only [List.length_cons, List.length_nil, Nat.zero_add, Nat.reduceAdd]; omega))).mono ?_
 rintro e w2 ⟨rfl, hW, hK⟩
 have HD2 : Az ((D1 ++ bb_ kc_ x.f1).length = bs.length + 8 * 1 + (bb_ kc_ x.f1).length) := ⟨by first | (rw [List.length_append, HD1.out]; simp [ta_, ac_, bc_]; done) | rw [List.length_append, HD1.out]⟩
 generalize D1 ++ bb_ kc_ x.f1 = D2 at *
 have HW2 := aM_ hW
 have HK2 := aM_ (HK1.out.trans hK)
 have HB2 := aM_ (hK _ _ HB1.out HGB.out (fun cs z e => by injection e with _ e; exact absurd e (by decide)))
 clear hW hK HW1 HK1 HB1
 clear hc1_0 hc1_1
 go_wp2
 go_end0
 exact ⟨rfl, by rw [HE.out]; exact HW2.out, HK2.out⟩
theorem ps_ (w0 : World) (g : Nat) (bs : List Int) (A : Option Addr) (c : Nat) (l : List S52) (W : World) (h : WrAt w0 g bs W) (hr : Kd.C k52 w0 A l.length l) (hc : l.length ≤ c) (hlen : bs.length + (bb_ ib_ l).length ≤ 1000000000000) :
  Calls Tryz.prog 80 #[.pointer (some ⟨g, 0, none⟩), .slice A l.length c, .func (.func 81) #[.pointer (some ⟨g, 0, none⟩)] #[]] W fun e W' => e = .returned (.tuple #[]) ∧ WrAt w0 g (bs ++ bb_ ib_ l) W' ∧ Kept8 g W W' := by
 have hl0 : (bb_ ib_ l).length = 8 + (l.flatMap ib_).length := by unfold bb_; rw [List.length_append, ta_]; rfl
 rw [hl0] at hlen
 have hnum := xc_ w0 g bs [(l.length : Int)] W h (by simp) (by simp; omega)
 have HN := aM_ hnum
 have HLN := aM_ hlen
 have HR := aM_ hr
 have hbn : l.length ≤ 9223372036854775807 := hr.2.1
 have HE : Az (bs ++ bb_ ib_ l = bs ++ ya_ [(l.length : Int)] ++ (l.take l.length).flatMap ib_) := ⟨by rw [List.take_length]; unfold bb_; rw [List.append_assoc]⟩
 clear hnum h hlen hl0 hr
 go_enter Tryz.func80, Tryz.ntmps80
 go_wp2_with fail
 refine HN.out.mono ?_
 rintro e w1 ⟨rfl, hW, hK⟩
 have HD : Az ((bs ++ ya_ [(l.length : Int)]).length = bs.length + 8) := ⟨by rw [List.length_append, ta_]; rfl⟩
 generalize bs ++ ya_ [(l.length : Int)] = D at *
 have HW0 : Az (WrAt w0 g (D ++ (l.take 0).flatMap ib_) w1) := ⟨by rw [List.take_zero]; show WrAt w0 g (D ++ []) w1; rw [List.append_nil]; exact hW⟩
 have HK0 := aM_ hK
 clear hW hK HN
 go_wp2
 go_loopg [15] l.length (fun gg s15 wr => ∃ i : Nat, i ≤ l.length ∧ l.length - i ≤ gg ∧ s15 = .int .i64 i ∧ Az (WrAt w0 g (D ++ (l.take i).flatMap ib_) wr) ∧ Az (Kept8 g W wr))
 case atStart => exact ⟨0, by omega, by omega, rfl, HW0, HK0⟩
 clear HW0 HK0
 obtain ⟨i, hi, hgg, rfl, HW, HK⟩ := hrel
 by_cases hil : i < l.length
 ·have hilz : (i : Int) < (l.length : Int) := by omega
  obtain ⟨ad, A1, c1, hA, h0, h1, l1, g1⟩ := lt_ HR.out (i : Int) (by omega) hilz; subst hA
  have hy : me_ l (i : Int) = l[i] := by
   show l.getD (i : Int).toNat _ = _; rw [Int.toNat_natCast, List.getD_eq_getElem?_getD, List.getElem?_eq_getElem hil]; rfl
  have hsn := pd_ ib_ l i hil; have hle := df_ ib_ l i hil; rw [← hy] at hsn hle; generalize me_ l (i : Int) = y at *; rw [Int.toNat_natCast] at h0 h1; replace h0 := ha_ HW.out.below h0; replace h1 := ha_ HW.out.below h1; have HSN := aM_ hsn; have hlb : (D ++ (l.take i).flatMap ib_).length + (ib_ y).length ≤ 1000000000000 := by rw [List.length_append, HD.out]; have := HLN.out; omega
  have HLB := aM_ hlb; have HW1 := aM_ (HW.out.grow (aa_ (Below.refl _ _) (.cells #[.int .i64 y.f0, .slice A1 y.f1.length c1] 52))); have HK1 := aM_ (HK.out.trans (Kept8.below (g := g) (aa_ (Below.refl wr.heap.size wr) (.cells #[.int .i64 y.f0, .slice A1 y.f1.length c1] 52)))); obtain ⟨E, hE⟩ : ∃ E, E = D ++ (l.take i).flatMap ib_ := ⟨_, rfl⟩; rw [← hE] at HW1 HLB; have HEE := aM_ hE; clear hy hsn hle hlb HW HK hE
  go_wp2_with fail
  refine (rp_ w0 g E y A1 c1 _ HW1.out g1 l1 HLB.out).mono ?_; rintro e w2 ⟨rfl, hW, hK⟩; have HW2 : Az (WrAt w0 g (D ++ (l.take (i + 1)).flatMap ib_) w2) := ⟨by rw [HSN.out, ← List.append_assoc, ← HEE.out]; exact hW⟩; have HK2 := aM_ (HK1.out.trans hK); clear hW hK HW1 HK1 h0 h1
  go_wp2
  go_roundg (l.length - (i + 1))
  case measure => omega
  case rel => exact ⟨i + 1, by omega, by omega, by go_num, HW2, HK2⟩
 have he : i = l.length := by omega
 have hilz : decide ((i : Int) < (l.length : Int)) = false := by simp; omega
 rw [he] at HW
 clear he
 go_wp2
 go_end0
 exact ⟨rfl, by rw [HE.out]; exact HW.out, HK.out⟩
theorem ep_ (w0 : World) (g : Nat) (bs : List Int) (x : S44) (A3 : Option Addr) (c3 : Nat) (A4 : Option Addr) (c4 : Nat) (A5 : Option Addr) (c5 : Nat) (W : World) (h : WrAt w0 g bs W) (hr3 : Kd.C k46 w0 A3 x.f3.length x.f3) (hc3 : x.f3.length ≤ c3) (hr4 : Kd.C k56 w0 A4 x.f4.length x.f4) (hc4 : x.f4.length ≤ c4) (hr5 : Kd.C k52 w0 A5 x.f5.length x.f5) (hc5 : x.f5.length ≤ c5) (hlen : bs.length + (loc8 x).length ≤ 1000000000000) :
  Calls Tryz.prog 34 #[.pointer (some ⟨g, 0, none⟩), .agg #[.string x.f0, .int .i64 x.f1, .int .i64 x.f2, .slice A3 x.f3.length c3, .slice A4 x.f4.length c4, .slice A5 x.f5.length c5]] W fun e W' => e = .returned (.tuple #[]) ∧ WrAt w0 g (bs ++ loc8 x) W' ∧ Kept8 g W W' := by
 have hl0 : (loc8 x).length = 8 + x.f0.size + 16 + (bb_ ent8 x.f3).length + (bb_ wb_ x.f4).length + (bb_ ib_ x.f5).length := by unfold loc8; simp only [List.length_append, ac_, ta_, List.length_cons, List.length_nil]
 rw [hl0] at hlen
 obtain ⟨D0, hD0⟩ : ∃ D, D = bs := ⟨_, rfl⟩
 have HE : Az (bs ++ loc8 x = D0 ++ txt8 x.f0 ++ ya_ [x.f1, x.f2] ++ bb_ ent8 x.f3 ++ bb_ wb_ x.f4 ++ bb_ ib_ x.f5) := ⟨by rw [hD0]; unfold loc8; simp only [List.append_assoc]⟩
 have hd0 : D0.length = bs.length := by rw [hD0]
 rw [← hD0] at h
 have HB0 : Az ((W.alloc (.cells #[.string x.f0, .int .i64 x.f1, .int .i64 x.f2, .slice A3 x.f3.length c3, .slice A4 x.f4.length c4, .slice A5 x.f5.length c5] 44)).heap[W.heap.size]? = some (.cells #[.string x.f0, .int .i64 x.f1, .int .i64 x.f2, .slice A3 x.f3.length c3, .slice A4 x.f4.length c4, .slice A5 x.f5.length c5] 44 (0, 0))) := ⟨ra_ W _⟩
 have HW0 : Az (WrAt w0 g D0 (W.alloc (.cells #[.string x.f0, .int .i64 x.f1, .int .i64 x.f2, .slice A3 x.f3.length c3, .slice A4 x.f4.length c4, .slice A5 x.f5.length c5] 44))) := ⟨h.grow (aa_ (Below.refl _ _) _)⟩
 have HK0 : Az (Kept8 g W (W.alloc (.cells #[.string x.f0, .int .i64 x.f1, .int .i64 x.f2, .slice A3 x.f3.length c3, .slice A4 x.f4.length c4, .slice A5 x.f5.length c5] 44))) := ⟨Kept8.below (aa_ (Below.refl _ _) _)⟩
 have hgb : W.heap.size ≠ g := by obtain ⟨_, _, hb, _⟩ := h.row; have := eb_ hb; omega
 have HGB := aM_ hgb
 clear hgb
 have HLN := aM_ hlen
 have HD0 := aM_ hd0
 clear h hl0 hD0 hlen hd0
 have hmf : ∀ (fn : Fn) (first cap : Array Value) (w : World), (Instr.makeFunc fn first cap).run Tryz.prog w = .ok (.func fn first cap) w := fun _ _ _ _ => rfl
 go_enter Tryz.func34, Tryz.ntmps34
 go_wp2_with fail
 refine (yi_ w0 g D0 x.f0 (W.alloc (.cells #[.string x.f0, .int .i64 x.f1, .int .i64 x.f2, .slice A3 x.f3.length c3, .slice A4 x.f4.length c4, .slice A5 x.f5.length c5] 44)) HW0.out (by rw [HD0.out]; have := HLN.out; first | omega | (simp only [List.length_cons, List.length_nil, Nat.zero_add, Nat.reduceAdd]; omega))).mono ?_
 rintro e w1 ⟨rfl, hW, hK⟩
 have HD1 : Az ((D0 ++ txt8 x.f0).length = bs.length + (8 + x.f0.size)) := ⟨by first | (rw [List.length_append, HD0.out]; simp [ta_, ac_, bc_]; done) | rw [List.length_append, HD0.out]⟩
 generalize D0 ++ txt8 x.f0 = D1 at *
 have HW1 := aM_ hW
 have HK1 := aM_ (HK0.out.trans hK)
 have HB1 := aM_ (hK _ _ HB0.out HGB.out (fun cs z e => by injection e with _ e; exact absurd e (by decide)))
 clear hW hK HW0 HK0 HB0
 have hc1_0 := ba_ HB1.out 0
 have hc1_1 := ba_ HB1.out 1
 have hc1_2 := ba_ HB1.out 2
 have hc1_3 := ba_ HB1.out 3
 have hc1_4 := ba_ HB1.out 4
 have hc1_5 := ba_ HB1.out 5
 go_wp2_with fail
 have hnum := xc_ w0 g D1 [x.f1, x.f2] w1 HW1.out (by simp) (by rw [HD1.out]; have := HLN.out; first | omega | (simp only [List.length_cons, List.length_nil, Nat.zero_add, Nat.reduceAdd]; omega))
 refine hnum.mono ?_
 clear hnum
 rintro e w2 ⟨rfl, hW, hK⟩
 have HD2 : Az ((D1 ++ ya_ [x.f1, x.f2]).length = bs.length + (8 + x.f0.size) + 8 * 2) := ⟨by first | (rw [List.length_append, HD1.out]; simp [ta_, ac_, bc_]; done) | rw [List.length_append, HD1.out]⟩
 generalize D1 ++ ya_ [x.f1, x.f2] = D2 at *
 have HW2 := aM_ hW
 have HK2 := aM_ (HK1.out.trans hK)
 have HB2 := aM_ (hK _ _ HB1.out HGB.out (fun cs z e => by injection e with _ e; exact absurd e (by decide)))
 clear hW hK HW1 HK1 HB1
 clear hc1_0 hc1_1 hc1_2 hc1_3 hc1_4 hc1_5
 have hc2_0 := ba_ HB2.out 0
 have hc2_1 := ba_ HB2.out 1
 have hc2_2 := ba_ HB2.out 2
 have hc2_3 := ba_ HB2.out 3
 have hc2_4 := ba_ HB2.out 4
 have hc2_5 := ba_ HB2.out 5
 go_wp2_with fail
 refine (ts_ w0 g D2 A3 c3 x.f3 w2 HW2.out hr3 hc3 (by rw [HD2.out]; have := HLN.out; first | omega | (simp only [List.length_cons, List.length_nil, Nat.zero_add, Nat.reduceAdd]; omega))).mono ?_
 rintro e w3 ⟨rfl, hW, hK⟩
 have HD3 : Az ((D2 ++ bb_ ent8 x.f3).length = bs.length + (8 + x.f0.size) + 8 * 2 + (bb_ ent8 x.f3).length) := ⟨by first | (rw [List.length_append, HD2.out]; simp [ta_, ac_, bc_]; done) | rw [List.length_append, HD2.out]⟩
 generalize D2 ++ bb_ ent8 x.f3 = D3 at *
 have HW3 := aM_ hW
 have HK3 := aM_ (HK2.out.trans hK)
 have HB3 := aM_ (hK _ _ HB2.out HGB.out (fun cs z e => by injection e with _ e; exact absurd e (by decide)))
 clear hW hK HW2 HK2 HB2
 clear hc2_0 hc2_1 hc2_2 hc2_3 hc2_4 hc2_5
 have hc3_0 := ba_ HB3.out 0
 have hc3_1 := ba_ HB3.out 1
 have hc3_2 := ba_ HB3.out 2
 have hc3_3 := ba_ HB3.out 3
 have hc3_4 := ba_ HB3.out 4
 have hc3_5 := ba_ HB3.out 5
 go_wp2_with fail
 refine (qs_ w0 g D3 A4 c4 x.f4 w3 HW3.out hr4 hc4 (by rw [HD3.out]; have := HLN.out; first | omega | (simp only [List.length_cons, List.length_nil, Nat.zero_add, Nat.reduceAdd]; omega))).mono ?_
 rintro e w4 ⟨rfl, hW, hK⟩
 have HD4 : Az ((D3 ++ bb_ wb_ x.f4).length = bs.length + (8 + x.f0.size) + 8 * 2 + (bb_ ent8 x.f3).length + (bb_ wb_ x.f4).length) := ⟨by first | (rw [List.length_append, HD3.out]; simp [ta_, ac_, bc_]; done) | rw [List.length_append, HD3.out]⟩
 generalize D3 ++ bb_ wb_ x.f4 = D4 at *
 have HW4 := aM_ hW
 have HK4 := aM_ (HK3.out.trans hK)
 have HB4 := aM_ (hK _ _ HB3.out HGB.out (fun cs z e => by injection e with _ e; exact absurd e (by decide)))
 clear hW hK HW3 HK3 HB3
 clear hc3_0 hc3_1 hc3_2 hc3_3 hc3_4 hc3_5
 have hc4_0 := ba_ HB4.out 0
 have hc4_1 := ba_ HB4.out 1
 have hc4_2 := ba_ HB4.out 2
 have hc4_3 := ba_ HB4.out 3
 have hc4_4 := ba_ HB4.out 4
 have hc4_5 := ba_ HB4.out 5
 go_wp2_with fail
 refine (ps_ w0 g D4 A5 c5 x.f5 w4 HW4.out hr5 hc5 (by rw [HD4.out]; have := HLN.out; first | omega | (simp only [List.length_cons, List.length_nil, Nat.zero_add, Nat.reduceAdd]; omega))).mono ?_
 rintro e w5 ⟨rfl, hW, hK⟩
 have HD5 : Az ((D4 ++ bb_ ib_ x.f5).length = bs.length + (8 + x.f0.size) + 8 * 2 + (bb_ ent8 x.f3).length + (bb_ wb_ x.f4).length + (bb_ ib_ x.f5).length) := ⟨by first | (rw [List.length_append, HD4.out]; simp [ta_, ac_, bc_]; done) | rw [List.length_append, HD4.out]⟩
 generalize D4 ++ bb_ ib_ x.f5 = D5 at *
 have HW5 := aM_ hW
 have HK5 := aM_ (HK4.out.trans hK)
 have HB5 := aM_ (hK _ _ HB4.out HGB.out (fun cs z e => by injection e with _ e; exact absurd e (by decide)))
 clear hW hK HW4 HK4 HB4
 clear hc4_0 hc4_1 hc4_2 hc4_3 hc4_4 hc4_5
 go_wp2
 go_end0
 exact ⟨rfl, by rw [HE.out]; exact HW5.out, HK5.out⟩
theorem ss_ (w0 : World) (g : Nat) (bs : List Int) (A : Option Addr) (c : Nat) (l : List S44) (W : World) (h : WrAt w0 g bs W) (hr : Kd.C k44 w0 A l.length l) (hc : l.length ≤ c) (hlen : bs.length + (bb_ loc8 l).length ≤ 1000000000000) :
  Calls Tryz.prog 33 #[.pointer (some ⟨g, 0, none⟩), .slice A l.length c, .func (.func 34) #[.pointer (some ⟨g, 0, none⟩)] #[]] W fun e W' => e = .returned (.tuple #[]) ∧ WrAt w0 g (bs ++ bb_ loc8 l) W' ∧ Kept8 g W W' := by
 have hl0 : (bb_ loc8 l).length = 8 + (l.flatMap loc8).length := by unfold bb_; rw [List.length_append, ta_]; rfl
 rw [hl0] at hlen
 have hnum := xc_ w0 g bs [(l.length : Int)] W h (by simp) (by simp; omega)
 have HN := aM_ hnum
 have HLN := aM_ hlen
 have HR := aM_ hr
 have hbn : l.length ≤ 9223372036854775807 := hr.2.1
 have HE : Az (bs ++ bb_ loc8 l = bs ++ ya_ [(l.length : Int)] ++ (l.take l.length).flatMap loc8) := ⟨by rw [List.take_length]; unfold bb_; rw [List.append_assoc]⟩
 clear hnum h hlen hl0 hr
 go_enter Tryz.func33, Tryz.ntmps33
 go_wp2_with fail
 refine HN.out.mono ?_
 rintro e w1 ⟨rfl, hW, hK⟩
 have HD : Az ((bs ++ ya_ [(l.length : Int)]).length = bs.length + 8) := ⟨by rw [List.length_append, ta_]; rfl⟩
 generalize bs ++ ya_ [(l.length : Int)] = D at *
 have HW0 : Az (WrAt w0 g (D ++ (l.take 0).flatMap loc8) w1) := ⟨by rw [List.take_zero]; show WrAt w0 g (D ++ []) w1; rw [List.append_nil]; exact hW⟩
 have HK0 := aM_ hK
 clear hW hK HN
 go_wp2
 go_loopg [15] l.length (fun gg s15 wr => ∃ i : Nat, i ≤ l.length ∧ l.length - i ≤ gg ∧ s15 = .int .i64 i ∧ Az (WrAt w0 g (D ++ (l.take i).flatMap loc8) wr) ∧ Az (Kept8 g W wr))
 case atStart => exact ⟨0, by omega, by omega, rfl, HW0, HK0⟩
 clear HW0 HK0
 obtain ⟨i, hi, hgg, rfl, HW, HK⟩ := hrel
 by_cases hil : i < l.length
 ·have hilz : (i : Int) < (l.length : Int) := by omega
  obtain ⟨ad, A3, c3, A4, c4, A5, c5, hA, h0, h1, h2, h3, h4, h5, l3, g3, l4, g4, l5, g5⟩ := rg_ HR.out (i : Int) (by omega) hilz; subst hA
  have hy : jb_ l (i : Int) = l[i] := by
   show l.getD (i : Int).toNat _ = _; rw [Int.toNat_natCast, List.getD_eq_getElem?_getD, List.getElem?_eq_getElem hil]; rfl
  have hsn := pd_ loc8 l i hil; have hle := df_ loc8 l i hil; rw [← hy] at hsn hle; generalize jb_ l (i : Int) = y at *; rw [Int.toNat_natCast] at h0 h1 h2 h3 h4 h5; replace h0 := ha_ HW.out.below h0; replace h1 := ha_ HW.out.below h1; replace h2 := ha_ HW.out.below h2; replace h3 := ha_ HW.out.below h3; replace h4 := ha_ HW.out.below h4; replace h5 := ha_ HW.out.below h5; have HSN := aM_ hsn; have hlb : (D ++ (l.take i).flatMap loc8).length + (loc8 y).length ≤ 1000000000000 := by rw [List.length_append, HD.out]; have := HLN.out; omega
  have HLB := aM_ hlb; have HW1 := aM_ (HW.out.grow (aa_ (Below.refl _ _) (.cells #[.string y.f0, .int .i64 y.f1, .int .i64 y.f2, .slice A3 y.f3.length c3, .slice A4 y.f4.length c4, .slice A5 y.f5.length c5] 44))); have HK1 := aM_ (HK.out.trans (Kept8.below (g := g) (aa_ (Below.refl wr.heap.size wr) (.cells #[.string y.f0, .int .i64 y.f1, .int .i64 y.f2, .slice A3 y.f3.length c3, .slice A4 y.f4.length c4, .slice A5 y.f5.length c5] 44)))); obtain ⟨E, hE⟩ : ∃ E, E = D ++ (l.take i).flatMap loc8 := ⟨_, rfl⟩; rw [← hE] at HW1 HLB; have HEE := aM_ hE; clear hy hsn hle hlb HW HK hE
  go_wp2_with fail
  refine (ep_ w0 g E y A3 c3 A4 c4 A5 c5 _ HW1.out g3 l3 g4 l4 g5 l5 HLB.out).mono ?_; rintro e w2 ⟨rfl, hW, hK⟩; have HW2 : Az (WrAt w0 g (D ++ (l.take (i + 1)).flatMap loc8) w2) := ⟨by rw [HSN.out, ← List.append_assoc, ← HEE.out]; exact hW⟩; have HK2 := aM_ (HK1.out.trans hK); clear hW hK HW1 HK1 h0 h1 h2 h3 h4 h5
  go_wp2
  go_roundg (l.length - (i + 1))
  case measure => omega
  case rel => exact ⟨i + 1, by omega, by omega, by go_num, HW2, HK2⟩
 have he : i = l.length := by omega
 have hilz : decide ((i : Int) < (l.length : Int)) = false := by simp; omega
 rw [he] at HW
 clear he
 go_wp2
 go_end0
 exact ⟨rfl, by rw [HE.out]; exact HW.out, HK.out⟩
theorem ir_ (A0 : Option Addr) (c0 : Nat) (l0 : List Int) (w : World) (hr0 : Kd.C (Kd.int .u8) w A0 l0.length l0) (hc0 : l0.length ≤ c0) (hl : l0.length ≤ 1000000000000) :
  Calls Tryz.prog 35 #[.slice A0 l0.length c0] w fun e w' => ∃ v0_ : Value, e = .returned (v0_) ∧ Kd.R (Kd.int .u8) 5 w' w.heap.size (fun _ => True) v0_ l0 ∧ Below w.heap.size w w' := by
 have q22 : ∀ (w : World) (a : Option Addr) (n c n' c' : Nat), (binOp .eql 28 (.slice a n c) (.slice none n' c')).run Tryz.prog w = .ok (.bool a.isNone) w := fun w a n c n' c' => Lib.run_eql_slice_nil w _ _ a n c n' c' Tryz.underlying28
 have HR := aM_ hr0
 have HL := aM_ hl
 clear hr0 hl
 cases A0 with
 | none =>
  have h0 : l0 = [] := by
   cases l0 with
   | nil => rfl
   | cons x l => obtain ⟨ad, e, _⟩ := HR.out.2.2 (by simp); cases e
  subst h0
  go_enter Tryz.func35, Tryz.ntmps35
  go_wp2
  go_ret
  exact ⟨_, rfl, Kd.R_nil _ _ _ _ _, Below.refl _ _⟩
 | some ad =>
  go_enter Tryz.func35, Tryz.ntmps35
  go_wp2_with (at_builtin; go_loud (refine Kd.R_append_row (Value.int .u8) 0 (h1 := fun _ => rfl) (w0 := w) w.heap.size rfl (.tmp 5) (.tmp 6) 28 5 (.int .u8 0) 1 rfl Tryz.underlying28 zn_ rfl (by decide) (.slice (some ⟨w.heap.size, 0, none⟩) 0 0) [] l0 (some ad) l0.length c0 (fun _ => True) rfl rfl (fun _ _ => trivial) ?hO ?hR ?hB ?hb ?hl ?_); (case hO => go_loud (exact Kd.R_of_own (World.ownsRow_made w #[] 0 (Nat.le_refl _) (Nat.zero_le _) rfl) (fun _ _ => trivial))); (case hR => go_loud (exact Kd.C_alloc HR.out _)); (case hB => exact aa_ (Below.refl _ _) _); (case hb => go_loud (simp)); (case hl => go_loud (have := HL.out; simp; omega)); intro v1 w1 ho hb hg hat)
  have ho' : Kd.R (Kd.int .u8) 5 w1 w.heap.size (fun _ => True) v1 l0 := ho; have HO := aM_ ho'; have HB := aM_ hb; clear ho ho' hb hg hat
  go_wp2
  go_ret
  exact ⟨_, rfl, HO.out, HB.out⟩
def enc8 (l : List S44) : List Int := bb_ loc8 l
theorem wj_ (A : Option Addr) (c : Nat) (l : List S44) (w : World) (hr : Kd.C k44 w A l.length l) (hc : l.length ≤ c) (hlen : (enc8 l).length ≤ 1000000000000) :
  Calls Tryz.prog 14 #[.slice A l.length c] w fun e w' => ∃ v : Value, e = .returned v ∧ Kd.R (Kd.int .u8) 5 w' w.heap.size (fun _ => True) v (enc8 l) ∧ Below w.heap.size w w' := by
 have hmf : ∀ (fn : Fn) (first cap : Array Value) (w : World), (Instr.makeFunc fn first cap).run Tryz.prog w = .ok (.func fn first cap) w := fun _ _ _ _ => rfl
 have HW0 : Az (WrAt w w.heap.size [] (w.alloc (.cells #[.slice none 0 0] 76))) := ⟨⟨⟨none, 0, ra_ w _, Kd.R_nil _ _ _ _ _⟩, aa_ (Below.refl _ _) _, Nat.le_refl _⟩⟩
 have HL := aM_ (ss_ w w.heap.size [] A c l _ HW0.out hr hc (by show 0 + _ ≤ _; rw [Nat.zero_add]; exact hlen))
 have HLN := aM_ hlen
 clear hr hlen
 go_enter Tryz.func14, Tryz.ntmps14
 go_wp2_with fail
 refine HL.out.mono ?_
 rintro e w1 ⟨rfl, hW, _⟩
 have hW' : WrAt w w.heap.size (enc8 l) w1 := hW
 obtain ⟨A', c', hblk, hrow⟩ := hW'.row
 have r0 : w1.cell? ⟨w.heap.size, 0, none⟩ = some (.slice A' (enc8 l).length c') := ba_ hblk 0
 have HB := aM_ hW'.below
 have hrr := Kd.R_reads' hrow
 have HCL := aM_ (ir_ A' c' (enc8 l) w1 hrr.2.2 hrr.2.1 HLN.out)
 clear hW hW' hblk hrow hrr HL
 go_wp2_with fail
 refine HCL.out.mono ?_
 rintro e w2 ⟨v, rfl, hR, hB2⟩
 have HR2 := aM_ (Kd.R_lower hR HB.out.size)
 have HB2 := aM_ (ga_ HB.out hB2)
 clear hR hB2
 go_wp2
 go_ret
 exact ⟨_, rfl, HR2.out, HB2.out⟩
end Go.Proofs.YtiocgaekoeekgaaGreat.P
end
