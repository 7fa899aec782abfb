/- Any name is resolved as the document says: what the parent has stands ahead: BlobResolves answers true for all that it is given, with no condition. Part 4: contracts of the functions that the law reaches, and words for them. -/
import Derived.WalkSpells
import Derived.Defers
import Derived.Recover
import Derived.Test.YtiocgaekoeekgaaGreatMBR3
set_option maxHeartbeats 32000000
set_option maxRecDepth 100000
section
namespace Go.Proofs.YtiocgaekoeekgaaGreat.P
open Go.RowKit YtiocgaekoeekgaaGreatW.PrintWords YtiocgaekoeekgaaGreatW.PrintLast YtiocgaekoeekgaaGreatW.PrintMore
attribute [local go_sem] ub_ rb_ cc_ bc_ kb_ jb_ tb_ qb_   
set_option linter.unusedVariables false
set_option linter.unusedSimpArgs false
attribute [local go_sem] Oper.semAt_some
def mb_ (s : S52) : List Int := eb_ [s.f0] ++ pb_ lc_ s.f1
def loc8 (x : S44) : List Int := txt8 x.f0 ++ eb_ [x.f1, x.f2] ++ pb_ ent8 x.f3 ++ pb_ fc_ x.f4 ++ pb_ mb_ x.f5
theorem xp_ (w0 : World) (g : Nat) (bs : List Int) (x : S52) (A1 : Option Addr) (c1 : Nat) (W : World) (h : WrAt w0 g bs W) (hr1 : Kd.C k48 w0 A1 x.f1.length x.f1) (hc1 : x.f1.length ≤ c1) (hlen : bs.length + (mb_ x).length ≤ 1000000000000) :
  Calls Tryz.prog 81 #[.pointer (some ⟨g, 0, none⟩), .agg #[.int .i64 x.f0, .slice A1 x.f1.length c1]] W fun e W' => e = .returned (.tuple #[]) ∧ WrAt w0 g (bs ++ mb_ x) W' ∧ Kept8 g W W' := by
 have hl0 : (mb_ x).length = 8 + (pb_ lc_ x.f1).length := by unfold mb_; rw [List.length_append, sa_]; rfl
 rw [hl0] at hlen
 obtain ⟨D0, hD0⟩ : ∃ D, D = bs := ⟨_, rfl⟩
 have HE : Az (bs ++ mb_ x = D0 ++ eb_ [x.f0] ++ pb_ lc_ x.f1) := ⟨by rw [hD0]; unfold mb_; simp only [List.append_assoc]⟩
 have hd0 : D0.length = bs.length := by rw [hD0]
 rw [← hD0] at h
 have HB0 : Az ((W.alloc (.cells #[.int .i64 x.f0, .slice A1 x.f1.length c1] 52)).heap[W.heap.size]? = some (.cells #[.int .i64 x.f0, .slice A1 x.f1.length c1] 52 (0, 0))) := ⟨oa_ W _⟩
 have HW0 : Az (WrAt w0 g D0 (W.alloc (.cells #[.int .i64 x.f0, .slice A1 x.f1.length c1] 52))) := ⟨h.grow (aa_ (Below.refl _ _) _)⟩
 have HK0 : Az (Kept8 g W (W.alloc (.cells #[.int .i64 x.f0, .slice A1 x.f1.length c1] 52))) := ⟨Kept8.below (aa_ (Below.refl _ _) _)⟩
 have hgb : W.heap.size ≠ g := by obtain ⟨_, _, hb, _⟩ := h.row; have := bb_ hb; omega
 have HGB := aM_ hgb
 clear hgb
 have HLN := aM_ hlen
 have HD0 := aM_ hd0
 clear h hl0 hD0 hlen hd0
 have hmf : ∀ (fn : Fn) (first cap : Array Value) (w : World), (Instr.makeFunc fn first cap).run Tryz.prog w = .ok (.func fn first cap) w := fun _ _ _ _ => rfl
 go_enter Tryz.func81, Tryz.ntmps81
 go_wp2_with fail
 have hnum := sc_ w0 g D0 [x.f0] (W.alloc (.cells #[.int .i64 x.f0, .slice A1 x.f1.length c1] 52)) HW0.out Tt_ Ud_
 rw [show (W.alloc (.cells #[.int .i64 x.f0, .slice A1 x.f1.length c1] 52)).heap.size = W.heap.size + 1 by simp] at hnum
 refine hnum.mono ?_
 clear hnum
 rintro e w1 ⟨rfl, hW, hK⟩
 have HD1 : Az ((D0 ++ eb_ [x.f0]).length = bs.length + 8 * 1) := ⟨Uk_⟩
 generalize D0 ++ eb_ [x.f0] = D1 at *
 have HW1 := aM_ hW
 have HK1 := aM_ (HK0.out.trans hK)
 have HB1 := aM_ (hK _ _ HB0.out HGB.out (fun cs z e => by injection e with _ e; exact absurd e Tm_))
 clear hW hK HW0 HK0 HB0
 have hc1_0 := ba_ HB1.out 0
 have hc1_1 := ba_ HB1.out 1
 go_wp2_with fail
 refine (qs_ w0 g D1 A1 c1 x.f1 w1 HW1.out hr1 hc1 Uj_).mono ?_
 rintro e w2 ⟨rfl, hW, hK⟩
 have HD2 : Az ((D1 ++ pb_ lc_ x.f1).length = bs.length + 8 * 1 + (pb_ lc_ x.f1).length) := ⟨Ul_⟩
 generalize D1 ++ pb_ lc_ x.f1 = D2 at *
 have HW2 := aM_ hW
 have HK2 := aM_ (HK1.out.trans hK)
 have HB2 := aM_ (hK _ _ HB1.out HGB.out (fun cs z e => by injection e with _ e; exact absurd e Tm_))
 clear hW hK HW1 HK1 HB1
 clear hc1_0 hc1_1
 go_wp2
 go_end0
 exact ⟨rfl, by rw [HE.out]; exact HW2.out, HK2.out⟩
theorem os_ (w0 : World) (g : Nat) (bs : List Int) (A : Option Addr) (c : Nat) (l : List S52) (W : World) (h : WrAt w0 g bs W) (hr : Kd.C k52 w0 A l.length l) (hc : l.length ≤ c) (hlen : bs.length + (pb_ mb_ l).length ≤ 1000000000000) :
  Calls Tryz.prog 80 #[.pointer (some ⟨g, 0, none⟩), .slice A l.length c, .func (.func 81) #[.pointer (some ⟨g, 0, none⟩)] #[]] W fun e W' => e = .returned (.tuple #[]) ∧ WrAt w0 g (bs ++ pb_ mb_ l) W' ∧ Kept8 g W W' := by
 have hl0 : (pb_ mb_ l).length = 8 + (l.flatMap mb_).length := by unfold pb_; rw [List.length_append, sa_]; rfl
 rw [hl0] at hlen
 have hnum := sc_ w0 g bs [(l.length : Int)] W h Tt_ Wo_
 have HN := aM_ hnum
 have HLN := aM_ hlen
 have HR := aM_ hr
 have hbn : l.length ≤ 9223372036854775807 := hr.2.1
 have HE : Az (bs ++ pb_ mb_ l = bs ++ eb_ [(l.length : Int)] ++ (l.take l.length).flatMap mb_) := ⟨Vt_⟩
 clear hnum h hlen hl0 hr
 go_enter Tryz.func80, Tryz.ntmps80
 go_wp2_with fail
 refine HN.out.mono ?_
 rintro e w1 ⟨rfl, hW, hK⟩
 have HD : Az ((bs ++ eb_ [(l.length : Int)]).length = bs.length + 8) := ⟨Wu_⟩
 generalize bs ++ eb_ [(l.length : Int)] = D at *
 have HW0 : Az (WrAt w0 g (D ++ (l.take 0).flatMap mb_) w1) := ⟨Vd_⟩
 have HK0 := aM_ hK
 clear hW hK HN
 go_wp2
 go_loopg [15] l.length (fun gg s15 wr => ∃ i : Nat, i ≤ l.length ∧ l.length - i ≤ gg ∧ s15 = .int .i64 i ∧ Az (WrAt w0 g (D ++ (l.take i).flatMap mb_) wr) ∧ Az (Kept8 g W wr))
 case atStart => exact ⟨0, Td_, Td_, rfl, HW0, HK0⟩
 clear HW0 HK0
 obtain ⟨i, hi, hgg, rfl, HW, HK⟩ := hrel
 by_cases hil : i < l.length
 ·have hilz : (i : Int) < (l.length : Int) := by omega
  obtain ⟨ad, A1, c1, hA, h0, h1, l1, g1⟩ := sp_ HR.out (i : Int) Td_ hilz; subst hA
  have hy : he_ l (i : Int) = l[i] := by
   show l.getD (i : Int).toNat _ = _; rw [Int.toNat_natCast, List.getD_eq_getElem?_getD, List.getElem?_eq_getElem hil]; rfl
  have hsn := ld_ mb_ l i hil; have hle := ye_ mb_ l i hil; rw [← hy] at hsn hle; generalize he_ l (i : Int) = y at *; rw [Int.toNat_natCast] at h0 h1; replace h0 := fa_ HW.out.below h0; replace h1 := fa_ HW.out.below h1; have HSN := aM_ hsn; have hlb : (D ++ (l.take i).flatMap mb_).length + (mb_ y).length ≤ 1000000000000 := by rw [List.length_append, HD.out]; have := HLN.out; omega
  have HLB := aM_ hlb; have HW1 := aM_ (HW.out.grow (aa_ (Below.refl _ _) (.cells #[.int .i64 y.f0, .slice A1 y.f1.length c1] 52))); have HK1 := aM_ (HK.out.trans (Kept8.below (g := g) (aa_ (Below.refl wr.heap.size wr) (.cells #[.int .i64 y.f0, .slice A1 y.f1.length c1] 52)))); obtain ⟨E, hE⟩ : ∃ E, E = D ++ (l.take i).flatMap mb_ := ⟨_, rfl⟩; rw [← hE] at HW1 HLB; have HEE := aM_ hE; clear hy hsn hle hlb HW HK hE
  go_wp2_with fail
  refine (xp_ w0 g E y A1 c1 _ HW1.out g1 l1 HLB.out).mono ?_; rintro e w2 ⟨rfl, hW, hK⟩; have HW2 : Az (WrAt w0 g (D ++ (l.take (i + 1)).flatMap mb_) w2) := ⟨Vy_⟩; have HK2 := aM_ (HK1.out.trans hK); clear hW hK HW1 HK1 h0 h1
  go_wp2
  go_roundg (l.length - (i + 1))
  case measure => omega
  case rel => exact ⟨i + 1, Td_, Td_, Va_, HW2, HK2⟩
 have he : i = l.length := by omega
 have hilz : decide ((i : Int) < (l.length : Int)) = false := by simp; omega
 rw [he] at HW
 clear he
 go_wp2
 go_end0
 exact ⟨rfl, Xe_, HK.out⟩
theorem kp_ (w0 : World) (g : Nat) (bs : List Int) (x : S44) (A3 : Option Addr) (c3 : Nat) (A4 : Option Addr) (c4 : Nat) (A5 : Option Addr) (c5 : Nat) (W : World) (h : WrAt w0 g bs W) (hr3 : Kd.C k46 w0 A3 x.f3.length x.f3) (hc3 : x.f3.length ≤ c3) (hr4 : Kd.C k56 w0 A4 x.f4.length x.f4) (hc4 : x.f4.length ≤ c4) (hr5 : Kd.C k52 w0 A5 x.f5.length x.f5) (hc5 : x.f5.length ≤ c5) (hlen : bs.length + (loc8 x).length ≤ 1000000000000) :
  Calls Tryz.prog 34 #[.pointer (some ⟨g, 0, none⟩), .agg #[.string x.f0, .int .i64 x.f1, .int .i64 x.f2, .slice A3 x.f3.length c3, .slice A4 x.f4.length c4, .slice A5 x.f5.length c5]] W fun e W' => e = .returned (.tuple #[]) ∧ WrAt w0 g (bs ++ loc8 x) W' ∧ Kept8 g W W' := by
 have hl0 : (loc8 x).length = 8 + x.f0.size + 16 + (pb_ ent8 x.f3).length + (pb_ fc_ x.f4).length + (pb_ mb_ x.f5).length := by unfold loc8; simp only [List.length_append, ac_, sa_, List.length_cons, List.length_nil]
 rw [hl0] at hlen
 obtain ⟨D0, hD0⟩ : ∃ D, D = bs := ⟨_, rfl⟩
 have HE : Az (bs ++ loc8 x = D0 ++ txt8 x.f0 ++ eb_ [x.f1, x.f2] ++ pb_ ent8 x.f3 ++ pb_ fc_ x.f4 ++ pb_ mb_ x.f5) := ⟨by rw [hD0]; unfold loc8; simp only [List.append_assoc]⟩
 have hd0 : D0.length = bs.length := by rw [hD0]
 rw [← hD0] at h
 have HB0 : Az ((W.alloc (.cells #[.string x.f0, .int .i64 x.f1, .int .i64 x.f2, .slice A3 x.f3.length c3, .slice A4 x.f4.length c4, .slice A5 x.f5.length c5] 44)).heap[W.heap.size]? = some (.cells #[.string x.f0, .int .i64 x.f1, .int .i64 x.f2, .slice A3 x.f3.length c3, .slice A4 x.f4.length c4, .slice A5 x.f5.length c5] 44 (0, 0))) := ⟨oa_ W _⟩
 have HW0 : Az (WrAt w0 g D0 (W.alloc (.cells #[.string x.f0, .int .i64 x.f1, .int .i64 x.f2, .slice A3 x.f3.length c3, .slice A4 x.f4.length c4, .slice A5 x.f5.length c5] 44))) := ⟨h.grow (aa_ (Below.refl _ _) _)⟩
 have HK0 : Az (Kept8 g W (W.alloc (.cells #[.string x.f0, .int .i64 x.f1, .int .i64 x.f2, .slice A3 x.f3.length c3, .slice A4 x.f4.length c4, .slice A5 x.f5.length c5] 44))) := ⟨Kept8.below (aa_ (Below.refl _ _) _)⟩
 have hgb : W.heap.size ≠ g := by obtain ⟨_, _, hb, _⟩ := h.row; have := bb_ hb; omega
 have HGB := aM_ hgb
 clear hgb
 have HLN := aM_ hlen
 have HD0 := aM_ hd0
 clear h hl0 hD0 hlen hd0
 have hmf : ∀ (fn : Fn) (first cap : Array Value) (w : World), (Instr.makeFunc fn first cap).run Tryz.prog w = .ok (.func fn first cap) w := fun _ _ _ _ => rfl
 go_enter Tryz.func34, Tryz.ntmps34
 go_wp2_with fail
 refine (bj_ w0 g D0 x.f0 (W.alloc (.cells #[.string x.f0, .int .i64 x.f1, .int .i64 x.f2, .slice A3 x.f3.length c3, .slice A4 x.f4.length c4, .slice A5 x.f5.length c5] 44)) HW0.out Ud_).mono ?_
 rintro e w1 ⟨rfl, hW, hK⟩
 have HD1 : Az ((D0 ++ txt8 x.f0).length = bs.length + (8 + x.f0.size)) := ⟨Uk_⟩
 generalize D0 ++ txt8 x.f0 = D1 at *
 have HW1 := aM_ hW
 have HK1 := aM_ (HK0.out.trans hK)
 have HB1 := aM_ (hK _ _ HB0.out HGB.out (fun cs z e => by injection e with _ e; exact absurd e Tm_))
 clear hW hK HW0 HK0 HB0
 have hc1_0 := ba_ HB1.out 0
 have hc1_1 := ba_ HB1.out 1
 have hc1_2 := ba_ HB1.out 2
 have hc1_3 := ba_ HB1.out 3
 have hc1_4 := ba_ HB1.out 4
 have hc1_5 := ba_ HB1.out 5
 go_wp2_with fail
 have hnum := sc_ w0 g D1 [x.f1, x.f2] w1 HW1.out Tt_ Uj_
 refine hnum.mono ?_
 clear hnum
 rintro e w2 ⟨rfl, hW, hK⟩
 have HD2 : Az ((D1 ++ eb_ [x.f1, x.f2]).length = bs.length + (8 + x.f0.size) + 8 * 2) := ⟨Ul_⟩
 generalize D1 ++ eb_ [x.f1, x.f2] = D2 at *
 have HW2 := aM_ hW
 have HK2 := aM_ (HK1.out.trans hK)
 have HB2 := aM_ (hK _ _ HB1.out HGB.out (fun cs z e => by injection e with _ e; exact absurd e Tm_))
 clear hW hK HW1 HK1 HB1
 clear hc1_0 hc1_1 hc1_2 hc1_3 hc1_4 hc1_5
 have hc2_0 := ba_ HB2.out 0
 have hc2_1 := ba_ HB2.out 1
 have hc2_2 := ba_ HB2.out 2
 have hc2_3 := ba_ HB2.out 3
 have hc2_4 := ba_ HB2.out 4
 have hc2_5 := ba_ HB2.out 5
 go_wp2_with fail
 refine (ss_ w0 g D2 A3 c3 x.f3 w2 HW2.out hr3 hc3 Vg_).mono ?_
 rintro e w3 ⟨rfl, hW, hK⟩
 have HD3 : Az ((D2 ++ pb_ ent8 x.f3).length = bs.length + (8 + x.f0.size) + 8 * 2 + (pb_ ent8 x.f3).length) := ⟨Vm_⟩
 generalize D2 ++ pb_ ent8 x.f3 = D3 at *
 have HW3 := aM_ hW
 have HK3 := aM_ (HK2.out.trans hK)
 have HB3 := aM_ (hK _ _ HB2.out HGB.out (fun cs z e => by injection e with _ e; exact absurd e Tm_))
 clear hW hK HW2 HK2 HB2
 clear hc2_0 hc2_1 hc2_2 hc2_3 hc2_4 hc2_5
 have hc3_0 := ba_ HB3.out 0
 have hc3_1 := ba_ HB3.out 1
 have hc3_2 := ba_ HB3.out 2
 have hc3_3 := ba_ HB3.out 3
 have hc3_4 := ba_ HB3.out 4
 have hc3_5 := ba_ HB3.out 5
 go_wp2_with fail
 refine (ps_ w0 g D3 A4 c4 x.f4 w3 HW3.out hr4 hc4 (by rw [HD3.out]; have := HLN.out; first | omega | (simp only [List.length_cons, List.length_nil, Nat.zero_add, Nat.reduceAdd]; omega))).mono ?_
 rintro e w4 ⟨rfl, hW, hK⟩
 have HD4 : Az ((D3 ++ pb_ fc_ x.f4).length = bs.length + (8 + x.f0.size) + 8 * 2 + (pb_ ent8 x.f3).length + (pb_ fc_ x.f4).length) := ⟨by first | (rw [List.length_append, HD3.out]; simp [sa_, ac_, xb_]; done) | rw [List.length_append, HD3.out]⟩
 generalize D3 ++ pb_ fc_ x.f4 = D4 at *
 have HW4 := aM_ hW
 have HK4 := aM_ (HK3.out.trans hK)
 have HB4 := aM_ (hK _ _ HB3.out HGB.out (fun cs z e => by injection e with _ e; exact absurd e Tm_))
 clear hW hK HW3 HK3 HB3
 clear hc3_0 hc3_1 hc3_2 hc3_3 hc3_4 hc3_5
 have hc4_0 := ba_ HB4.out 0
 have hc4_1 := ba_ HB4.out 1
 have hc4_2 := ba_ HB4.out 2
 have hc4_3 := ba_ HB4.out 3
 have hc4_4 := ba_ HB4.out 4
 have hc4_5 := ba_ HB4.out 5
 go_wp2_with fail
 refine (os_ w0 g D4 A5 c5 x.f5 w4 HW4.out hr5 hc5 (by rw [HD4.out]; have := HLN.out; first | omega | (simp only [List.length_cons, List.length_nil, Nat.zero_add, Nat.reduceAdd]; omega))).mono ?_
 rintro e w5 ⟨rfl, hW, hK⟩
 have HD5 : Az ((D4 ++ pb_ mb_ x.f5).length = bs.length + (8 + x.f0.size) + 8 * 2 + (pb_ ent8 x.f3).length + (pb_ fc_ x.f4).length + (pb_ mb_ x.f5).length) := ⟨by first | (rw [List.length_append, HD4.out]; simp [sa_, ac_, xb_]; done) | rw [List.length_append, HD4.out]⟩
 generalize D4 ++ pb_ mb_ x.f5 = D5 at *
 have HW5 := aM_ hW
 have HK5 := aM_ (HK4.out.trans hK)
 have HB5 := aM_ (hK _ _ HB4.out HGB.out (fun cs z e => by injection e with _ e; exact absurd e Tm_))
 clear hW hK HW4 HK4 HB4
 clear hc4_0 hc4_1 hc4_2 hc4_3 hc4_4 hc4_5
 go_wp2
 go_end0
 exact ⟨rfl, by rw [HE.out]; exact HW5.out, HK5.out⟩
theorem rs_ (w0 : World) (g : Nat) (bs : List Int) (A : Option Addr) (c : Nat) (l : List S44) (W : World) (h : WrAt w0 g bs W) (hr : Kd.C k44 w0 A l.length l) (hc : l.length ≤ c) (hlen : bs.length + (pb_ loc8 l).length ≤ 1000000000000) :
  Calls Tryz.prog 33 #[.pointer (some ⟨g, 0, none⟩), .slice A l.length c, .func (.func 34) #[.pointer (some ⟨g, 0, none⟩)] #[]] W fun e W' => e = .returned (.tuple #[]) ∧ WrAt w0 g (bs ++ pb_ loc8 l) W' ∧ Kept8 g W W' := by
 have hl0 : (pb_ loc8 l).length = 8 + (l.flatMap loc8).length := by unfold pb_; rw [List.length_append, sa_]; rfl
 rw [hl0] at hlen
 have hnum := sc_ w0 g bs [(l.length : Int)] W h Tt_ Wo_
 have HN := aM_ hnum
 have HLN := aM_ hlen
 have HR := aM_ hr
 have hbn : l.length ≤ 9223372036854775807 := hr.2.1
 have HE : Az (bs ++ pb_ loc8 l = bs ++ eb_ [(l.length : Int)] ++ (l.take l.length).flatMap loc8) := ⟨Vt_⟩
 clear hnum h hlen hl0 hr
 go_enter Tryz.func33, Tryz.ntmps33
 go_wp2_with fail
 refine HN.out.mono ?_
 rintro e w1 ⟨rfl, hW, hK⟩
 have HD : Az ((bs ++ eb_ [(l.length : Int)]).length = bs.length + 8) := ⟨Wu_⟩
 generalize bs ++ eb_ [(l.length : Int)] = D at *
 have HW0 : Az (WrAt w0 g (D ++ (l.take 0).flatMap loc8) w1) := ⟨Vd_⟩
 have HK0 := aM_ hK
 clear hW hK HN
 go_wp2
 go_loopg [15] l.length (fun gg s15 wr => ∃ i : Nat, i ≤ l.length ∧ l.length - i ≤ gg ∧ s15 = .int .i64 i ∧ Az (WrAt w0 g (D ++ (l.take i).flatMap loc8) wr) ∧ Az (Kept8 g W wr))
 case atStart => exact ⟨0, Td_, Td_, rfl, HW0, HK0⟩
 clear HW0 HK0
 obtain ⟨i, hi, hgg, rfl, HW, HK⟩ := hrel
 by_cases hil : i < l.length
 ·have hilz : (i : Int) < (l.length : Int) := by omega
  obtain ⟨ad, A3, c3, A4, c4, A5, c5, hA, h0, h1, h2, h3, h4, h5, l3, g3, l4, g4, l5, g5⟩ := tf_ HR.out (i : Int) Td_ hilz; subst hA
  have hy : pa_ l (i : Int) = l[i] := by
   show l.getD (i : Int).toNat _ = _; rw [Int.toNat_natCast, List.getD_eq_getElem?_getD, List.getElem?_eq_getElem hil]; rfl
  have hsn := ld_ loc8 l i hil; have hle := ye_ loc8 l i hil; rw [← hy] at hsn hle; generalize pa_ l (i : Int) = y at *; rw [Int.toNat_natCast] at h0 h1 h2 h3 h4 h5; replace h0 := fa_ HW.out.below h0; replace h1 := fa_ HW.out.below h1; replace h2 := fa_ HW.out.below h2; replace h3 := fa_ HW.out.below h3; replace h4 := fa_ HW.out.below h4; replace h5 := fa_ HW.out.below h5; have HSN := aM_ hsn; have hlb : (D ++ (l.take i).flatMap loc8).length + (loc8 y).length ≤ 1000000000000 := by rw [List.length_append, HD.out]; have := HLN.out; omega
  have HLB := aM_ hlb; have HW1 := aM_ (HW.out.grow (aa_ (Below.refl _ _) (.cells #[.string y.f0, .int .i64 y.f1, .int .i64 y.f2, .slice A3 y.f3.length c3, .slice A4 y.f4.length c4, .slice A5 y.f5.length c5] 44))); have HK1 := aM_ (HK.out.trans (Kept8.below (g := g) (aa_ (Below.refl wr.heap.size wr) (.cells #[.string y.f0, .int .i64 y.f1, .int .i64 y.f2, .slice A3 y.f3.length c3, .slice A4 y.f4.length c4, .slice A5 y.f5.length c5] 44)))); obtain ⟨E, hE⟩ : ∃ E, E = D ++ (l.take i).flatMap loc8 := ⟨_, rfl⟩; rw [← hE] at HW1 HLB; have HEE := aM_ hE; clear hy hsn hle hlb HW HK hE
  go_wp2_with fail
  refine (kp_ w0 g E y A3 c3 A4 c4 A5 c5 _ HW1.out g3 l3 g4 l4 g5 l5 HLB.out).mono ?_; rintro e w2 ⟨rfl, hW, hK⟩; have HW2 : Az (WrAt w0 g (D ++ (l.take (i + 1)).flatMap loc8) w2) := ⟨Vy_⟩; have HK2 := aM_ (HK1.out.trans hK); clear hW hK HW1 HK1 h0 h1 h2 h3 h4 h5
  go_wp2
  go_roundg (l.length - (i + 1))
  case measure => omega
  case rel => exact ⟨i + 1, Td_, Td_, Va_, HW2, HK2⟩
 have he : i = l.length := by omega
 have hilz : decide ((i : Int) < (l.length : Int)) = false := by simp; omega
 rw [he] at HW
 clear he
 go_wp2
 go_end0
 exact ⟨rfl, Xe_, HK.out⟩
theorem ir_ (A0 : Option Addr) (c0 : Nat) (l0 : List Int) (w : World) (hr0 : Kd.C (Kd.int .u8) w A0 l0.length l0) (hc0 : l0.length ≤ c0) (hl : l0.length ≤ 1000000000000) :
  Calls Tryz.prog 35 #[.slice A0 l0.length c0] w fun e w' => ∃ v0_ : Value, e = .returned (v0_) ∧ Kd.R (Kd.int .u8) 5 w' w.heap.size (fun _ => True) v0_ l0 ∧ Below w.heap.size w w' := by
 have q22 : ∀ (w : World) (a : Option Addr) (n c n' c' : Nat), (binOp .eql 28 (.slice a n c) (.slice none n' c')).run Tryz.prog w = .ok (.bool a.isNone) w := fun w a n c n' c' => Lib.run_eql_slice_nil w _ _ a n c n' c' Tryz.underlying28
 have HR := aM_ hr0
 have HL := aM_ hl
 clear hr0 hl
 cases A0 with
 | none =>
  have h0 : l0 = [] := by
   cases l0 with
   | nil => rfl
   | cons x l => obtain ⟨ad, e, _⟩ := HR.out.2.2 Tt_; cases e
  subst h0
  go_enter Tryz.func35, Tryz.ntmps35
  go_wp2
  go_ret
  exact ⟨_, rfl, Kd.R_nil _ _ _ _ _, Below.refl _ _⟩
 | some ad =>
  go_enter Tryz.func35, Tryz.ntmps35
  go_wp2_with (at_builtin; go_loud (refine Kd.R_append_row (Value.int .u8) 0 (h1 := fun _ => rfl) (w0 := w) w.heap.size rfl (.tmp 5) (.tmp 6) 28 5 (.int .u8 0) 1 rfl Tryz.underlying28 io_ rfl Tm_ (.slice (some ⟨w.heap.size, 0, none⟩) 0 0) [] l0 (some ad) l0.length c0 (fun _ => True) rfl rfl (fun _ _ => trivial) (by go_loud (exact Kd.R_of_own (World.ownsRow_made w #[] 0 (Nat.le_refl _) (Nat.zero_le _) rfl) (fun _ _ => trivial))) (by go_loud (exact Kd.C_alloc HR.out _)) (by exact aa_ (Below.refl _ _) _) (by go_loud (simp)) Vq_ ?_); intro v1 w1 ho hb hg hat)
  have ho' : Kd.R (Kd.int .u8) 5 w1 w.heap.size (fun _ => True) v1 l0 := ho; have HO := aM_ ho'; have HB := aM_ hb; clear ho ho' hb hg hat
  go_wp2
  go_ret
  exact ⟨_, rfl, HO.out, HB.out⟩
def enc8 (l : List S44) : List Int := pb_ loc8 l
theorem np_ (A : Option Addr) (c : Nat) (l : List S44) (w : World) (hr : Kd.C k44 w A l.length l) (hc : l.length ≤ c) (hlen : (enc8 l).length ≤ 1000000000000) :
  Calls Tryz.prog 14 #[.slice A l.length c] w fun e w' => ∃ v : Value, e = .returned v ∧ Kd.R (Kd.int .u8) 5 w' w.heap.size (fun _ => True) v (enc8 l) ∧ Below w.heap.size w w' := by
 have hmf : ∀ (fn : Fn) (first cap : Array Value) (w : World), (Instr.makeFunc fn first cap).run Tryz.prog w = .ok (.func fn first cap) w := fun _ _ _ _ => rfl
 have HW0 : Az (WrAt w w.heap.size [] (w.alloc (.cells #[.slice none 0 0] 76))) := ⟨⟨⟨none, 0, oa_ w _, Kd.R_nil _ _ _ _ _⟩, aa_ (Below.refl _ _) _, Nat.le_refl _⟩⟩
 have HL := aM_ (rs_ w w.heap.size [] A c l _ HW0.out hr hc (by show 0 + _ ≤ _; rw [Nat.zero_add]; exact hlen))
 have HLN := aM_ hlen
 clear hr hlen
 go_enter Tryz.func14, Tryz.ntmps14
 go_wp2_with fail
 refine HL.out.mono ?_
 rintro e w1 ⟨rfl, hW, _⟩
 have hW' : WrAt w w.heap.size (enc8 l) w1 := hW
 obtain ⟨A', c', hblk, hrow⟩ := hW'.row
 have r0 : w1.cell? ⟨w.heap.size, 0, none⟩ = some (.slice A' (enc8 l).length c') := ba_ hblk 0
 have HB := aM_ hW'.below
 have hrr := Kd.R_reads' hrow
 have HCL := aM_ (ir_ A' c' (enc8 l) w1 hrr.2.2 hrr.2.1 HLN.out)
 clear hW hW' hblk hrow hrr HL
 go_wp2_with fail
 refine HCL.out.mono ?_
 rintro e w2 ⟨v, rfl, hR, hB2⟩
 have HR2 := aM_ (Kd.R_lower hR HB.out.size)
 have HB2 := aM_ (da_ HB.out hB2)
 clear hR hB2
 go_wp2
 go_ret
 exact ⟨_, rfl, HR2.out, HB2.out⟩
theorem bo_ {l : List Int} {n : Int} {r : List Int} (hf : r5_num.f 9 l n = some r) : ∀ {k : Nat}, 9 ≤ k → r5_num.f k l n = some r := by
 intro k hk
 obtain ⟨d, rfl⟩ : ∃ d, k = 9 + d := ⟨k - 9, Td_⟩
 induction d with
 | zero => exact hf
 | succ d ih => exact r5_num.mono l n (9 + d) r (ih Td_)
theorem ints5_l0 (l1 : List Int) (hn : l1.length ≤ 1000000000000) : ∀ (m i : Nat) (x : List Int), i + m = l1.length → x.length + 8 * m ≤ 1000000000000 → r5_ints.l0 (m + 10) x l1 (i : Int) = some (x ++ eb_ (l1.drop i)) := by
 intro m
 induction m with
 | zero =>
  intro i x hi hx; rw [show 0 + 10 = 9 + 1 from rfl, r5_ints.l0, if_neg Td_, List.drop_eq_nil_of_le Td_]; show some x = some (x ++ [])
  rw [List.append_nil]
 | succ m ih =>
  intro i x hi hx; have hlt : i < l1.length := by omega
  have hr : rd l1 (i : Int) = l1[i] := by
   unfold rd; rw [Int.toNat_natCast, List.getD_eq_getElem?_getD, List.getElem?_eq_getElem hlt]; rfl
  have hf : r5_num.f (m + 10) x l1[i] = some (x ++ num8 l1[i]) := by
   have h9 := ks_ x l1[i] Td_; exact bo_ h9 Td_
  rw [show m + 1 + 10 = (m + 10) + 1 by omega, r5_ints.l0, if_pos Td_, if_pos Td_, hr, hf, Option.bind_some, show wrap64 ((i : Int) + 1) = ((i + 1 : Nat) : Int) from by rw [wrap64]; omega, ih (i + 1) _ Td_ (by rw [List.length_append, ob_]; omega), List.drop_eq_getElem_cons hlt, List.append_assoc]; rfl
theorem ints5_f (l0 l1 : List Int) (hl : l0.length + (vc_ l1).length ≤ 1000000000000) : r5_ints.f (l1.length + 10) l0 l1 = some (l0 ++ vc_ l1) := by
 have hln : (vc_ l1).length = 8 + 8 * l1.length := by
  unfold vc_; rw [List.length_append, sa_, sa_]; rfl
 unfold r5_ints.f
 have h9 : r5_num.f (l1.length + 10) l0 (l1.length : Int) = some (l0 ++ num8 (l1.length : Int)) := bo_ (ks_ l0 (l1.length : Int) Td_) Td_
 have h0 := ints5_l0 l1 Td_ l1.length 0 (l0 ++ num8 (l1.length : Int)) Td_ (by rw [List.length_append, ob_]; omega)
 rw [h9, Option.bind_some]
 refine h0.trans ?_
 rw [List.drop_zero]
 unfold vc_ eb_
 simp
theorem bu_ (w0 : World) (v : Value) (bs : List Int) (A : Option Addr) (c : Nat) (l : List Int) (W : World) (h : Row5 w0 v bs W) (hr : Kd.C (Kd.int .i64) w0 A l.length l) (hc : l.length ≤ c) (hl : bs.length + (vc_ l).length ≤ 1000000000000) :
  Calls Tryz.prog 104 #[v, .slice A l.length c] W fun e W' => ∃ v', e = .returned v' ∧ Row5 w0 v' (bs ++ vc_ l) W' ∧ KeptT W W' := by
 have h1 : Kd.R (Kd.int .u8) 5 W w0.heap.size (fun k => v.ownBlock = some k) v bs := ⟨fun k hk => hk, h.1.2.imp_ (fun _ _ hm => hm)⟩
 refine (r5_ints.calls (l.length + 10) _ v bs A c l _ w0 W h.2 h1 (Kd.C_kept_came (Kd.heap_int .i64) hr h.2 (fun k hk => Kd.R_base h.1 k hk)) hc (ints5_f bs l hl)).mono ?_
 rintro e W' ⟨v', rfl, hr, hb, hk⟩
 refine ⟨v', rfl, ⟨Kd.R_mono hr (fun _ _ => trivial), hb⟩, fun g t cs ht hg => ?_⟩
 exact (hk.2 g (bb_ hg) (fun he => Kd.R_ne h.1 hg ht he.symm)).trans hg
theorem ms_ (w0 : World) (v0 : Value) (bs : List Int) (x : S44) (A3 A4 A5 : Option Addr) (c3 c4 c5 : Nat) (W : World) (h : Row5 w0 v0 bs W) (hr3 : Kd.C k46 w0 A3 x.f3.length x.f3) (hc3 : x.f3.length ≤ c3) (hr4 : Kd.C k56 w0 A4 x.f4.length x.f4) (hc4 : x.f4.length ≤ c4) (hr5 : Kd.C k52 w0 A5 x.f5.length x.f5) (hc5 : x.f5.length ≤ c5) (hl : bs.length + (loc8 x).length ≤ 1000000000000) :
  Calls Tryz.prog 50 #[v0, .agg #[.string x.f0, .int .i64 x.f1, .int .i64 x.f2, .slice A3 x.f3.length c3, .slice A4 x.f4.length c4, .slice A5 x.f5.length c5]] W fun e W' => ∃ v', e = .returned v' ∧ Row5 w0 v' (bs ++ loc8 x) W' ∧ KeptT W W' := by
 obtain ⟨f0, f1, f2, f3, f4, f5⟩ := x
 simp only at hr3 hc3 hr4 hc4 hr5 hc5
 have hE8 : loc8 ⟨f0, f1, f2, f3, f4, f5⟩ = txt8 f0 ++ num8 f1 ++ num8 f2 ++ num8 f3.length ++ f3.flatMap ent8 ++ num8 f4.length ++ f4.flatMap fc_ ++ num8 f5.length ++ f5.flatMap mb_ := by
  unfold loc8 pb_ eb_; simp
 have hLen : bs.length + ((txt8 f0).length + 8 + 8 + 8 + (f3.flatMap ent8).length + 8 + (f4.flatMap fc_).length + 8 + (f5.flatMap mb_).length) ≤ 1000000000000 := by
  rw [hE8] at hl; simp only [List.length_append, ob_] at hl; omega
 have HE8 : Az (bs ++ loc8 ⟨f0, f1, f2, f3, f4, f5⟩ = (bs ++ txt8 f0 ++ num8 f1 ++ num8 f2 ++ num8 f3.length) ++ (f3.take f3.length).flatMap ent8 ++ num8 f4.length ++ (f4.take f4.length).flatMap fc_ ++ num8 f5.length ++ (f5.take f5.length).flatMap mb_) := ⟨by rw [hE8, List.take_length, List.take_length, List.take_length]; simp only [List.append_assoc]⟩
 generalize bs ++ loc8 ⟨f0, f1, f2, f3, f4, f5⟩ = Z at *
 have HLN := aM_ hLen
 have HC := aM_ hr3
 have HC4 := aM_ hr4
 have HC5 := aM_ hr5
 have hbn : f3.length ≤ 9223372036854775807 := hr3.2.1
 have hbn4 : f4.length ≤ 9223372036854775807 := hr4.2.1
 have hbn5 : f5.length ≤ 9223372036854775807 := hr5.2.1
 have hu1 := Tryz.underlying44
 have hu2 := Tryz.underlying46
 have hu3 := Tryz.underlying56
 have hu4 := Tryz.underlying52
 have hu5 := Tryz.underlying48
 have hu6 := Tryz.underlying54
 have HKW : Az (KeptT W (W.alloc (.cells #[.string f0, .int .i64 f1, .int .i64 f2, .slice A3 f3.length c3, .slice A4 f4.length c4, .slice A5 f5.length c5] 44))) := ⟨KeptT.below (aa_ (Below.refl _ _) _)⟩
 have HR0 : Az (Row5 w0 v0 bs (W.alloc (.cells #[.string f0, .int .i64 f1, .int .i64 f2, .slice A3 f3.length c3, .slice A4 f4.length c4, .slice A5 f5.length c5] 44))) := ⟨⟨Kd.R_alloc h.1 _, da_ h.2 (aa_ (Below.refl _ _) _)⟩⟩
 have HBK : Az ((W.alloc (.cells #[.string f0, .int .i64 f1, .int .i64 f2, .slice A3 f3.length c3, .slice A4 f4.length c4, .slice A5 f5.length c5] 44)).heap[W.heap.size]? = some (.cells #[.string f0, .int .i64 f1, .int .i64 f2, .slice A3 f3.length c3, .slice A4 f4.length c4, .slice A5 f5.length c5] 44 (0, 0))) := ⟨oa_ W _⟩
 have HL0 : Az (bs.length + (txt8 f0).length ≤ 1000000000000) := ⟨Td_⟩
 have HL1 : Az ((bs ++ txt8 f0).length + 8 ≤ 1000000000000) := ⟨by simp only [List.length_append]; omega⟩
 have HL2 : Az ((bs ++ txt8 f0 ++ num8 f1).length + 8 ≤ 1000000000000) := ⟨Uq_⟩
 have HL3 : Az ((bs ++ txt8 f0 ++ num8 f1 ++ num8 f2).length + 8 ≤ 1000000000000) := ⟨Uq_⟩
 have HD : Az ((bs ++ txt8 f0 ++ num8 f1 ++ num8 f2 ++ num8 f3.length).length + (f3.flatMap ent8).length + 8 + (f4.flatMap fc_).length + 8 + (f5.flatMap mb_).length ≤ 1000000000000) := ⟨Uq_⟩
 clear h hr3 hc3 hr4 hc4 hr5 hc5 hl hLen hE8
 go_enter Tryz.func50, Tryz.ntmps50
 go_wp2_with fail
 generalize W.alloc (.cells #[.string f0, .int .i64 f1, .int .i64 f2, .slice A3 f3.length c3, .slice A4 f4.length c4, .slice A5 f5.length c5] 44) = W1 at *
 generalize W.heap.size = g at *
 have h0 : W1.cell? ⟨g, 0, none⟩ = some (.string f0) := ba_ HBK.out 0
 have h1 : W1.cell? ⟨g, 1, none⟩ = some (.int .i64 f1) := ba_ HBK.out 1
 have h2 : W1.cell? ⟨g, 2, none⟩ = some (.int .i64 f2) := ba_ HBK.out 2
 have h3 : W1.cell? ⟨g, 3, none⟩ = some (.slice A3 f3.length c3) := ba_ HBK.out 3
 have HK0 : Az (KeptT W W1) := HKW
 generalize hbs : bs = X at *
 refine fd_ (n := 15) (S := fun w' => w'.cell? ⟨g, 0, none⟩ = some (.string f0) ∧ w'.cell? ⟨g, 1, none⟩ = some (.int .i64 f1) ∧ w'.cell? ⟨g, 2, none⟩ = some (.int .i64 f2) ∧ w'.cell? ⟨g, 3, none⟩ = some (.slice A3 f3.length c3) ∧ Az (w'.heap[g]? = some (.cells #[.string f0, .int .i64 f1, .int .i64 f2, .slice A3 f3.length c3, .slice A4 f4.length c4, .slice A5 f5.length c5] 44 (0, 0)))) (ds := []) (f_ 15 0) Ti_ rfl rfl ⟨h0, h1, h2, h3, HBK⟩ (fun hHeld => ?_)
 replace HR0 : Az (Row5 w0 v0 X W1.drew) := ⟨⟨Kd.R_drew HR0.out.1, ga_ HR0.out.2⟩⟩
 replace HK0 : Az (KeptT W W1.drew) := ⟨HK0.out⟩
 generalize W1.drew = w9 at *
 refine pV_ 0 ?_
 refine pV_ 1 ?_
 refine tV5_ 2 ?_
 refine pV_ 4 ?_
 refine tV5_ 5 ?_
 refine pV_ 7 ?_
 refine tV5_ 8 ?_
 refine pV_ 10 ?_
 refine tV5_ 11 ?_
 refine pV_ 12 ?_
 refine oN_ 3 fun K hK => ?_
 refine gO_ Tryz.func103 #[v0, .string f0] ?_
 refine (uo_ w0 v0 X f0 _ HR0.out HL0.out).mono ?_
 rintro e w1 ⟨v1, rfl, hr, hk⟩
 have HR1 := aM_ hr
 have HK1 := aM_ (HK0.out.trans hk)
 refine ⟨_, rfl, ?_⟩
 refine hK.out _ _ ⟨(ba_ (hk _ _ _ Tm_ hHeld.2.2.2.2.out) 0).trans rfl, (ba_ (hk _ _ _ Tm_ hHeld.2.2.2.2.out) 1).trans rfl, (ba_ (hk _ _ _ Tm_ hHeld.2.2.2.2.out) 2).trans rfl, (ba_ (hk _ _ _ Tm_ hHeld.2.2.2.2.out) 3).trans rfl, ⟨(hk _ _ _ Tm_ hHeld.2.2.2.2.out)⟩⟩ (fun hHeld => ?_)
 clear hK K
 refine nO_ ?_
 refine oN_ 6 fun K hK => ?_
 refine gO_ Tryz.func49 #[v1, .int .i64 f1] ?_
 refine (je_ w0 v1 (X ++ txt8 f0) f1 _ HR1.out HL1.out).mono ?_
 rintro e w2 ⟨v2, rfl, hr, hk⟩
 have HR2 := aM_ hr
 have HK2 := aM_ (HK1.out.trans hk)
 refine ⟨_, rfl, ?_⟩
 refine hK.out _ _ ⟨(ba_ (hk _ _ _ Tm_ hHeld.2.2.2.2.out) 0).trans rfl, (ba_ (hk _ _ _ Tm_ hHeld.2.2.2.2.out) 1).trans rfl, (ba_ (hk _ _ _ Tm_ hHeld.2.2.2.2.out) 2).trans rfl, (ba_ (hk _ _ _ Tm_ hHeld.2.2.2.2.out) 3).trans rfl, ⟨(hk _ _ _ Tm_ hHeld.2.2.2.2.out)⟩⟩ (fun hHeld => ?_)
 clear hK K
 refine nO_ ?_
 refine oN_ 9 fun K hK => ?_
 refine gO_ Tryz.func49 #[v2, .int .i64 f2] ?_
 refine (je_ w0 v2 (X ++ txt8 f0 ++ num8 f1) f2 _ HR2.out HL2.out).mono ?_
 rintro e w3 ⟨v3, rfl, hr, hk⟩
 have HR3 := aM_ hr
 have HK3 := aM_ (HK2.out.trans hk)
 refine ⟨_, rfl, ?_⟩
 refine hK.out _ _ ⟨(ba_ (hk _ _ _ Tm_ hHeld.2.2.2.2.out) 0).trans rfl, (ba_ (hk _ _ _ Tm_ hHeld.2.2.2.2.out) 1).trans rfl, (ba_ (hk _ _ _ Tm_ hHeld.2.2.2.2.out) 2).trans rfl, (ba_ (hk _ _ _ Tm_ hHeld.2.2.2.2.out) 3).trans rfl, ⟨(hk _ _ _ Tm_ hHeld.2.2.2.2.out)⟩⟩ (fun hHeld => ?_)
 clear hK K
 refine nO_ ?_
 refine oN_ 13 fun K hK => ?_
 refine gO_ Tryz.func49 #[v3, .int .i64 (f3.length : Int)] ?_
 refine (je_ w0 v3 (X ++ txt8 f0 ++ num8 f1 ++ num8 f2) (f3.length : Int) _ HR3.out HL3.out).mono ?_
 rintro e w4 ⟨v4, rfl, hr, hk⟩
 have HR4 := aM_ hr
 have HK4 := aM_ (HK3.out.trans hk)
 refine ⟨_, rfl, ?_⟩
 refine hK.out _ _ ⟨(ba_ (hk _ _ _ Tm_ hHeld.2.2.2.2.out) 0).trans rfl, (ba_ (hk _ _ _ Tm_ hHeld.2.2.2.2.out) 1).trans rfl, (ba_ (hk _ _ _ Tm_ hHeld.2.2.2.2.out) 2).trans rfl, (ba_ (hk _ _ _ Tm_ hHeld.2.2.2.2.out) 3).trans rfl, ⟨(hk _ _ _ Tm_ hHeld.2.2.2.2.out)⟩⟩ (fun hHeld => ?_)
 clear hK K
 refine nO_ ?_
 refine pV_ 14 ?_
 refine wd_ Ti_ ?_
 have HBK4 := hHeld.2.2.2.2
 generalize hDD : X ++ txt8 f0 ++ num8 f1 ++ num8 f2 ++ num8 (f3.length : Int) = D at *
 have HR5 : Az (Row5 w0 v4 (D ++ (f3.take 0).flatMap ent8) w4) := ⟨by rw [List.take_zero]; show Row5 w0 v4 (D ++ []) w4; rw [List.append_nil]; exact HR4.out⟩
 clear hHeld HR0 HR1 HR2 HR3 HR4 HL0 HL1 HL2 HL3 hDD h0 h1 h2 h3 hbs HK0 HK1 HK2 HK3 HBK HKW
 go_wp2_with fail
 go_loopg [5, 0] f3.length (fun gg s5 s0 wr => ∃ i : Nat, i ≤ f3.length ∧ f3.length - i ≤ gg ∧ s5 = .int .i64 i ∧ Az (Row5 w0 s0 (D ++ (f3.take i).flatMap ent8) wr) ∧ Az (wr.heap[g]? = some (.cells #[.string f0, .int .i64 f1, .int .i64 f2, .slice A3 f3.length c3, .slice A4 f4.length c4, .slice A5 f5.length c5] 44 (0, 0))) ∧ Az (KeptT W wr))
 case atStart => exact ⟨0, Td_, Td_, rfl, HR5, HBK4, HK4⟩
 generalize u0 = v5 at *
 clear HR5 HBK4 HK4
 obtain ⟨i, hi, hgg, rfl, HR5, HBK, HK5⟩ := hrel
 by_cases hil : i < f3.length
 ·have hilz : (i : Int) < (f3.length : Int) := by omega
  obtain ⟨ad, hA, e0, e1, e2⟩ := tp_ HC.out (i : Int) Td_ hilz; subst hA; rw [Int.toNat_natCast] at e0 e1 e2
  have hy : le_ f3 (i : Int) = f3[i] := by
   show f3.getD (i : Int).toNat _ = _; rw [Int.toNat_natCast, List.getD_eq_getElem?_getD, List.getElem?_eq_getElem hil]; rfl
  have hsn := ld_ ent8 f3 i hil; have hle := ye_ ent8 f3 i hil; rw [← hy] at hsn hle; have he8 : ent8 (le_ f3 (i : Int)) = txt8 (le_ f3 (i : Int)).f0 ++ num8 (le_ f3 (i : Int)).f1 ++ num8 (le_ f3 (i : Int)).f2 := by unfold ent8 eb_; simp
  rw [he8] at hsn hle; generalize (le_ f3 (i : Int)).f0 = y0 at *; generalize (le_ f3 (i : Int)).f1 = y1 at *; generalize (le_ f3 (i : Int)).f2 = y2 at *; have E0 := aM_ e0; have E1 := aM_ e1; have E2 := aM_ e2; simp only [List.length_append, ob_] at hle; have hxl : (D ++ (f3.take i).flatMap ent8).length + (txt8 y0).length + 16 ≤ 1000000000000 := by rw [List.length_append]; have := HD.out; omega
  have HSN : Az (D ++ (f3.take (i + 1)).flatMap ent8 = D ++ (f3.take i).flatMap ent8 ++ txt8 y0 ++ num8 y1 ++ num8 y2) := ⟨by rw [hsn]; simp only [List.append_assoc]⟩; generalize D ++ (f3.take i).flatMap ent8 = X at *; have HL5 : Az (X.length + (txt8 y0).length ≤ 1000000000000) := ⟨Td_⟩; have HL6 : Az ((X ++ txt8 y0).length + 8 ≤ 1000000000000) := ⟨by simp only [List.length_append]; omega⟩; have HL7 : Az ((X ++ txt8 y0 ++ num8 y1).length + 8 ≤ 1000000000000) := ⟨Uq_⟩; have hc3 : wr.cell? ⟨g, 3, none⟩ = some (.slice (some ad) f3.length c3) := ba_ HBK.out 3; have he0 := fa_ HR5.out.2 e0; have he1 := fa_ HR5.out.2 e1; have he2 := fa_ HR5.out.2 e2; clear hy hsn hle he8 hxl e0 e1 e2
  go_wp2_with fail
  refine fd_ (n := 23) (S := fun w' => w'.cell? ⟨g, 3, none⟩ = some (.slice (some ad) f3.length c3) ∧ w'.cell? (ad.add (i * 3)) = some (.string y0) ∧ w'.cell? ⟨(ad.add (i * 3)).block, (ad.add (i * 3)).off + 1, none⟩ = some (.int .i64 y1) ∧ w'.cell? ⟨(ad.add (i * 3)).block, (ad.add (i * 3)).off + 2, none⟩ = some (.int .i64 y2) ∧ Az (w'.heap[g]? = some (.cells #[.string f0, .int .i64 f1, .int .i64 f2, .slice (some ad) f3.length c3, .slice A4 f4.length c4, .slice A5 f5.length c5] 44 (0, 0)))) (ds := []) (f_ 23 0) Ti_ rfl rfl ⟨hc3, he0, he1, he2, HBK⟩ (fun hHeld => ?_); replace HR5 : Az (Row5 w0 v5 X wr.drew) := ⟨⟨Kd.R_drew HR5.out.1, ga_ HR5.out.2⟩⟩; replace HK5 : Az (KeptT W wr.drew) := ⟨HK5.out⟩; generalize wr.drew = w9 at *; refine pV_ 0 ?_; refine pV_ 1 ?_; refine tV5_ 2 ?_; refine pV_ 3 ?_; refine pV_ 4 ?_; refine pV_ 5 ?_; refine tV5_ 6 ?_; refine pV_ 8 ?_; refine tV5_ 9 ?_; refine pV_ 10 ?_; refine pV_ 11 ?_; refine pV_ 12 ?_; refine tV5_ 13 ?_; refine pV_ 15 ?_; refine tV5_ 16 ?_; refine pV_ 17 ?_; refine pV_ 18 ?_; refine pV_ 19 ?_; refine tV5_ 20 ?_; refine oN_ 7 fun K hK => ?_
  refine gO_ Tryz.func103 #[v5, .string y0] ?_
  refine (uo_ w0 v5 X y0 _ HR5.out HL5.out).mono ?_; rintro e w6 ⟨v6, rfl, hr, hk⟩; have HR6 := aM_ hr; have HK6 := aM_ (HK5.out.trans hk); refine ⟨_, rfl, ?_⟩; refine hK.out _ _ ⟨(ba_ (hk _ _ _ Tm_ hHeld.2.2.2.2.out) 3).trans rfl, fa_ hr.2 E0.out, fa_ hr.2 E1.out, fa_ hr.2 E2.out, ⟨(hk _ _ _ Tm_ hHeld.2.2.2.2.out)⟩⟩ (fun hHeld => ?_); clear hK K; refine nO_ ?_; refine oN_ 14 fun K hK => ?_
  refine gO_ Tryz.func49 #[v6, .int .i64 y1] ?_
  refine (je_ w0 v6 (X ++ txt8 y0) y1 _ HR6.out HL6.out).mono ?_; rintro e w7 ⟨v7, rfl, hr, hk⟩; have HR7 := aM_ hr; have HK7 := aM_ (HK6.out.trans hk); refine ⟨_, rfl, ?_⟩; refine hK.out _ _ ⟨(ba_ (hk _ _ _ Tm_ hHeld.2.2.2.2.out) 3).trans rfl, fa_ hr.2 E0.out, fa_ hr.2 E1.out, fa_ hr.2 E2.out, ⟨(hk _ _ _ Tm_ hHeld.2.2.2.2.out)⟩⟩ (fun hHeld => ?_); clear hK K; refine nO_ ?_; refine oN_ 21 fun K hK => ?_
  refine gO_ Tryz.func49 #[v7, .int .i64 y2] ?_
  refine (je_ w0 v7 (X ++ txt8 y0 ++ num8 y1) y2 _ HR7.out HL7.out).mono ?_; rintro e w8 ⟨v8, rfl, hr, hk⟩; have HR8 := aM_ hr; have HK8 := aM_ (HK7.out.trans hk); refine ⟨_, rfl, ?_⟩; refine hK.out _ _ ⟨(ba_ (hk _ _ _ Tm_ hHeld.2.2.2.2.out) 3).trans rfl, fa_ hr.2 E0.out, fa_ hr.2 E1.out, fa_ hr.2 E2.out, ⟨(hk _ _ _ Tm_ hHeld.2.2.2.2.out)⟩⟩ (fun hHeld => ?_); clear hK K; refine nO_ ?_; refine pV_ 22 ?_; refine wd_ Ti_ ?_; have HBK8 := hHeld.2.2.2.2; have HR9 : Az (Row5 w0 v8 (D ++ (f3.take (i + 1)).flatMap ent8) w8) := ⟨by rw [HSN.out]; exact HR8.out⟩; clear hHeld HR5 HR6 HR7 HR8 HL5 HL6 HL7 HK5 HK6 HK7 HBK hc3 he0 he1 he2
  go_wp2
  go_roundg (f3.length - (i + 1))
  case measure => omega
  case rel => exact ⟨i + 1, Td_, Td_, Va_, HR9, HBK8, HK8⟩
 have he : i = f3.length := by omega
 have hilz : decide ((i : Int) < (f3.length : Int)) = false := by simp; omega
 have hilz' : decide (i < f3.length) = false := by simp; omega
 have HX : Az (Z = (D ++ (f3.take i).flatMap ent8) ++ num8 f4.length ++ (f4.take f4.length).flatMap fc_ ++ num8 f5.length ++ (f5.take f5.length).flatMap mb_) := ⟨by rw [HE8.out, he]⟩
 have HXL : Az ((D ++ (f3.take i).flatMap ent8).length + 8 + (f4.flatMap fc_).length + 8 + (f5.flatMap mb_).length ≤ 1000000000000) := ⟨by rw [he, List.take_length, List.length_append]; have := HD.out; omega⟩
 generalize D ++ (f3.take i).flatMap ent8 = X at *
 have hc3 : wr.cell? ⟨g, 3, none⟩ = some (.slice A3 f3.length c3) := ba_ HBK.out 3
 have hc4 : wr.cell? ⟨g, 4, none⟩ = some (.slice A4 f4.length c4) := ba_ HBK.out 4
 have HN1 := aM_ (je_ w0 v5 X (f4.length : Int) wr HR5.out (by have := HXL.out; omega))
 clear he HD HE8 HLN
 go_wp2_with fail
 refine HN1.out.mono ?_
 rintro e w9 ⟨v9, rfl, hr, hk⟩
 have HKD := aM_ (HK5.out.trans hk)
 have HBD := aM_ (hk _ _ _ Tm_ HBK.out)
 have HXD : Az ((X ++ num8 (f4.length : Int)).length + (f4.flatMap fc_).length + 8 + (f5.flatMap mb_).length ≤ 1000000000000) := ⟨by rw [List.length_append, ob_]; have := HXL.out; omega⟩
 generalize X ++ num8 (f4.length : Int) = D4 at *
 have HRD : Az (Row5 w0 v9 (D4 ++ (f4.take 0).flatMap fc_) w9) := ⟨by rw [List.take_zero]; show Row5 w0 v9 (D4 ++ []) w9; rw [List.append_nil]; exact hr⟩
 clear hr hk hc3 hc4 HN1 HR5 HK5 HBK HXL
 go_wp2_with fail
 clear hilz hilz' hgg
 go_loopg [6, 0] f4.length (fun gg s6 s0 wq => ∃ i : Nat, i ≤ f4.length ∧ f4.length - i ≤ gg ∧ s6 = .int .i64 i ∧ Az (Row5 w0 s0 (D4 ++ (f4.take i).flatMap fc_) wq) ∧ Az (wq.heap[g]? = some (.cells #[.string f0, .int .i64 f1, .int .i64 f2, .slice A3 f3.length c3, .slice A4 f4.length c4, .slice A5 f5.length c5] 44 (0, 0))) ∧ Az (KeptT W wq))
 case atStart => exact ⟨0, Td_, Td_, rfl, HRD, HBD, HKD⟩
 generalize u0 = v10 at *
 generalize hqq : wr = w10 at *
 clear HRD HBD HKD
 obtain ⟨j, hj, hgg, rfl, HR10, HBK, HK10⟩ := hrel
 by_cases hil : j < f4.length
 ·have hilz : (j : Int) < (f4.length : Int) := by omega
  obtain ⟨ad, A1, c1, A2, c2, hA, e0, e1, e2, e3, e4, l1, g1, l2, g2⟩ := gj_ HC4.out (j : Int) Td_ hilz; subst hA; rw [Int.toNat_natCast] at e0 e1 e2 e3 e4
  have hy : wb_ f4 (j : Int) = f4[j] := by
   show f4.getD (j : Int).toNat _ = _; rw [Int.toNat_natCast, List.getD_eq_getElem?_getD, List.getElem?_eq_getElem hil]; rfl
  have hsn := ld_ fc_ f4 j hil; have hle := ye_ fc_ f4 j hil; rw [← hy] at hsn hle; have he8 : fc_ (wb_ f4 (j : Int)) = num8 (wb_ f4 (j : Int)).f0 ++ vc_ (wb_ f4 (j : Int)).f1 ++ num8 (wb_ f4 (j : Int)).f2.f0 ++ vc_ (wb_ f4 (j : Int)).f2.f1 ++ num8 (wb_ f4 (j : Int)).f3 := by unfold fc_; simp [eb_]
  rw [he8] at hsn hle; generalize (wb_ f4 (j : Int)).f0 = y0 at *; generalize (wb_ f4 (j : Int)).f1 = y1 at *; generalize (wb_ f4 (j : Int)).f2.f0 = y2 at *; generalize (wb_ f4 (j : Int)).f2.f1 = y3 at *; generalize (wb_ f4 (j : Int)).f3 = y4 at *; simp only [List.length_append, ob_] at hle; have hxl : (D4 ++ (f4.take j).flatMap fc_).length + (vc_ y1).length + (vc_ y3).length + 24 ≤ 1000000000000 := by rw [List.length_append]; have := HXD.out; omega
  have HSN : Az (D4 ++ (f4.take (j + 1)).flatMap fc_ = D4 ++ (f4.take j).flatMap fc_ ++ num8 y0 ++ vc_ y1 ++ num8 y2 ++ vc_ y3 ++ num8 y4) := ⟨by rw [hsn]; simp only [List.append_assoc]⟩; generalize D4 ++ (f4.take j).flatMap fc_ = X at *; have HL10 : Az (X.length + 8 ≤ 1000000000000) := ⟨Td_⟩; have HL11 : Az ((X ++ num8 y0).length + (vc_ y1).length ≤ 1000000000000) := ⟨Uq_⟩; have HL12 : Az ((X ++ num8 y0 ++ vc_ y1).length + 8 ≤ 1000000000000) := ⟨Uq_⟩; have HL13 : Az ((X ++ num8 y0 ++ vc_ y1 ++ num8 y2).length + (vc_ y3).length ≤ 1000000000000) := ⟨Uq_⟩; have HL14 : Az ((X ++ num8 y0 ++ vc_ y1 ++ num8 y2 ++ vc_ y3).length + 8 ≤ 1000000000000) := ⟨Uq_⟩; have G1 := aM_ g1; have G2 := aM_ g2; have HLE1 := aM_ l1; have HLE2 := aM_ l2; have hc4 : w10.cell? ⟨g, 4, none⟩ = some (.slice (some ad) f4.length c4) := ba_ HBK.out 4; have he0 := fa_ HR10.out.2 e0; have he1 := fa_ HR10.out.2 e1; have he2 := fa_ HR10.out.2 e2; have he3 := fa_ HR10.out.2 e3; have he4 := fa_ HR10.out.2 e4; have HBB : Az ((w10.alloc (.cells #[.int .i64 y0, .slice A1 y1.length c1, .int .i64 y2, .slice A2 y3.length c2, .int .i64 y4] 56)).heap[w10.heap.size]? = some (.cells #[.int .i64 y0, .slice A1 y1.length c1, .int .i64 y2, .slice A2 y3.length c2, .int .i64 y4] 56 (0, 0))) := ⟨oa_ w10 _⟩; replace HBK : Az ((w10.alloc (.cells #[.int .i64 y0, .slice A1 y1.length c1, .int .i64 y2, .slice A2 y3.length c2, .int .i64 y4] 56)).heap[g]? = some (.cells #[.string f0, .int .i64 f1, .int .i64 f2, .slice A3 f3.length c3, .slice (some ad) f4.length c4, .slice A5 f5.length c5] 44 (0, 0))) := ⟨la_ HBK.out (aa_ (Below.refl _ _) _)⟩; replace HR10 : Az (Row5 w0 v10 X (w10.alloc (.cells #[.int .i64 y0, .slice A1 y1.length c1, .int .i64 y2, .slice A2 y3.length c2, .int .i64 y4] 56))) := ⟨⟨Kd.R_alloc HR10.out.1 _, da_ HR10.out.2 (aa_ (Below.refl _ _) _)⟩⟩; replace HK10 : Az (KeptT W (w10.alloc (.cells #[.int .i64 y0, .slice A1 y1.length c1, .int .i64 y2, .slice A2 y3.length c2, .int .i64 y4] 56))) := ⟨HK10.out.trans (KeptT.below (aa_ (Below.refl _ _) _))⟩; clear hy hsn hle he8 hxl e0 e1 e2 e3 e4 g1 g2 l1 l2 hqq
  go_wp2_with fail
  generalize w10.alloc (.cells #[.int .i64 y0, .slice A1 y1.length c1, .int .i64 y2, .slice A2 y3.length c2, .int .i64 y4] 56) = w11 at *; generalize w10.heap.size = b at *; have hb0 : w11.cell? ⟨b, 0, none⟩ = some (.int .i64 y0) := ba_ HBB.out 0; have hb1 : w11.cell? ⟨b, 1, none⟩ = some (.slice A1 y1.length c1) := ba_ HBB.out 1; have hb2 : w11.cell? ⟨b, 2, none⟩ = some (.int .i64 y2) := ba_ HBB.out 2; have hb3 : w11.cell? ⟨b, 3, none⟩ = some (.slice A2 y3.length c2) := ba_ HBB.out 3; have hb4 : w11.cell? ⟨b, 4, none⟩ = some (.int .i64 y4) := ba_ HBB.out 4; clear hc4 he0 he1 he2 he3 he4; refine fd_ (n := 19) (S := fun w' => w'.cell? ⟨b, 0, none⟩ = some (.int .i64 y0) ∧ w'.cell? ⟨b, 1, none⟩ = some (.slice A1 y1.length c1) ∧ w'.cell? ⟨b, 2, none⟩ = some (.int .i64 y2) ∧ w'.cell? ⟨b, 3, none⟩ = some (.slice A2 y3.length c2) ∧ w'.cell? ⟨b, 4, none⟩ = some (.int .i64 y4) ∧ Az (w'.heap[g]? = some (.cells #[.string f0, .int .i64 f1, .int .i64 f2, .slice A3 f3.length c3, .slice (some ad) f4.length c4, .slice A5 f5.length c5] 44 (0, 0))) ∧ Az (w'.heap[b]? = some (.cells #[.int .i64 y0, .slice A1 y1.length c1, .int .i64 y2, .slice A2 y3.length c2, .int .i64 y4] 56 (0, 0)))) (ds := []) (f_ 19 0) Ti_ rfl rfl ⟨hb0, hb1, hb2, hb3, hb4, HBK, HBB⟩ (fun hHeld => ?_); replace HR10 : Az (Row5 w0 v10 X w11.drew) := ⟨⟨Kd.R_drew HR10.out.1, ga_ HR10.out.2⟩⟩; replace HK10 : Az (KeptT W w11.drew) := ⟨HK10.out⟩; generalize w11.drew = w9 at *; refine pV_ 0 ?_; refine pV_ 1 ?_; refine tV7_ 2 ?_; refine pV_ 4 ?_; refine tV7_ 5 ?_; refine pV_ 7 ?_; refine pV_ 8 ?_; refine tV7_ 9 ?_; refine pV_ 11 ?_; refine pV_ 12 ?_; refine tV7_ 13 ?_; refine pV_ 15 ?_; refine tV7_ 16 ?_; refine oN_ 3 fun K hK => ?_
  refine gO_ Tryz.func49 #[v10, .int .i64 y0] ?_
  refine (je_ w0 v10 X y0 _ HR10.out HL10.out).mono ?_; rintro e w11 ⟨v11, rfl, hr, hk⟩; have HR11 := aM_ hr; have HK11 := aM_ (HK10.out.trans hk); refine ⟨_, rfl, ?_⟩; refine hK.out _ _ ⟨(ba_ (hk _ _ _ Tm_ hHeld.2.2.2.2.2.2.out) 0).trans rfl, (ba_ (hk _ _ _ Tm_ hHeld.2.2.2.2.2.2.out) 1).trans rfl, (ba_ (hk _ _ _ Tm_ hHeld.2.2.2.2.2.2.out) 2).trans rfl, (ba_ (hk _ _ _ Tm_ hHeld.2.2.2.2.2.2.out) 3).trans rfl, (ba_ (hk _ _ _ Tm_ hHeld.2.2.2.2.2.2.out) 4).trans rfl, ⟨(hk _ _ _ Tm_ hHeld.2.2.2.2.2.1.out)⟩, ⟨(hk _ _ _ Tm_ hHeld.2.2.2.2.2.2.out)⟩⟩ (fun hHeld => ?_); clear hK K; refine nO_ ?_; refine oN_ 6 fun K hK => ?_
  refine gO_ Tryz.func104 #[v11, .slice A1 y1.length c1] ?_
  refine (bu_ w0 v11 (X ++ num8 y0) A1 c1 y1 _ HR11.out G1.out HLE1.out HL11.out).mono ?_; rintro e w12 ⟨v12, rfl, hr, hk⟩; have HR12 := aM_ hr; have HK12 := aM_ (HK11.out.trans hk); refine ⟨_, rfl, ?_⟩; refine hK.out _ _ ⟨(ba_ (hk _ _ _ Tm_ hHeld.2.2.2.2.2.2.out) 0).trans rfl, (ba_ (hk _ _ _ Tm_ hHeld.2.2.2.2.2.2.out) 1).trans rfl, (ba_ (hk _ _ _ Tm_ hHeld.2.2.2.2.2.2.out) 2).trans rfl, (ba_ (hk _ _ _ Tm_ hHeld.2.2.2.2.2.2.out) 3).trans rfl, (ba_ (hk _ _ _ Tm_ hHeld.2.2.2.2.2.2.out) 4).trans rfl, ⟨(hk _ _ _ Tm_ hHeld.2.2.2.2.2.1.out)⟩, ⟨(hk _ _ _ Tm_ hHeld.2.2.2.2.2.2.out)⟩⟩ (fun hHeld => ?_); clear hK K; refine nO_ ?_; refine oN_ 10 fun K hK => ?_
  refine gO_ Tryz.func49 #[v12, .int .i64 y2] ?_
  refine (je_ w0 v12 (X ++ num8 y0 ++ vc_ y1) y2 _ HR12.out HL12.out).mono ?_; rintro e w13 ⟨v13, rfl, hr, hk⟩; have HR13 := aM_ hr; have HK13 := aM_ (HK12.out.trans hk); refine ⟨_, rfl, ?_⟩; refine hK.out _ _ ⟨(ba_ (hk _ _ _ Tm_ hHeld.2.2.2.2.2.2.out) 0).trans rfl, (ba_ (hk _ _ _ Tm_ hHeld.2.2.2.2.2.2.out) 1).trans rfl, (ba_ (hk _ _ _ Tm_ hHeld.2.2.2.2.2.2.out) 2).trans rfl, (ba_ (hk _ _ _ Tm_ hHeld.2.2.2.2.2.2.out) 3).trans rfl, (ba_ (hk _ _ _ Tm_ hHeld.2.2.2.2.2.2.out) 4).trans rfl, ⟨(hk _ _ _ Tm_ hHeld.2.2.2.2.2.1.out)⟩, ⟨(hk _ _ _ Tm_ hHeld.2.2.2.2.2.2.out)⟩⟩ (fun hHeld => ?_); clear hK K; refine nO_ ?_; refine oN_ 14 fun K hK => ?_
  refine gO_ Tryz.func104 #[v13, .slice A2 y3.length c2] ?_
  refine (bu_ w0 v13 (X ++ num8 y0 ++ vc_ y1 ++ num8 y2) A2 c2 y3 _ HR13.out G2.out HLE2.out HL13.out).mono ?_; rintro e w14 ⟨v14, rfl, hr, hk⟩; have HR14 := aM_ hr; have HK14 := aM_ (HK13.out.trans hk); refine ⟨_, rfl, ?_⟩; refine hK.out _ _ ⟨(ba_ (hk _ _ _ Tm_ hHeld.2.2.2.2.2.2.out) 0).trans rfl, (ba_ (hk _ _ _ Tm_ hHeld.2.2.2.2.2.2.out) 1).trans rfl, (ba_ (hk _ _ _ Tm_ hHeld.2.2.2.2.2.2.out) 2).trans rfl, (ba_ (hk _ _ _ Tm_ hHeld.2.2.2.2.2.2.out) 3).trans rfl, (ba_ (hk _ _ _ Tm_ hHeld.2.2.2.2.2.2.out) 4).trans rfl, ⟨(hk _ _ _ Tm_ hHeld.2.2.2.2.2.1.out)⟩, ⟨(hk _ _ _ Tm_ hHeld.2.2.2.2.2.2.out)⟩⟩ (fun hHeld => ?_); clear hK K; refine nO_ ?_; refine oN_ 17 fun K hK => ?_
  refine gO_ Tryz.func49 #[v14, .int .i64 y4] ?_
  refine (je_ w0 v14 (X ++ num8 y0 ++ vc_ y1 ++ num8 y2 ++ vc_ y3) y4 _ HR14.out HL14.out).mono ?_; rintro e w15 ⟨v15, rfl, hr, hk⟩; have HR15 := aM_ hr; have HK15 := aM_ (HK14.out.trans hk); refine ⟨_, rfl, ?_⟩; refine hK.out _ _ ⟨(ba_ (hk _ _ _ Tm_ hHeld.2.2.2.2.2.2.out) 0).trans rfl, (ba_ (hk _ _ _ Tm_ hHeld.2.2.2.2.2.2.out) 1).trans rfl, (ba_ (hk _ _ _ Tm_ hHeld.2.2.2.2.2.2.out) 2).trans rfl, (ba_ (hk _ _ _ Tm_ hHeld.2.2.2.2.2.2.out) 3).trans rfl, (ba_ (hk _ _ _ Tm_ hHeld.2.2.2.2.2.2.out) 4).trans rfl, ⟨(hk _ _ _ Tm_ hHeld.2.2.2.2.2.1.out)⟩, ⟨(hk _ _ _ Tm_ hHeld.2.2.2.2.2.2.out)⟩⟩ (fun hHeld => ?_); clear hK K; refine nO_ ?_; refine pV_ 18 ?_; refine wd_ Ti_ ?_; have HBK16 := hHeld.2.2.2.2.2.1; have HR16 : Az (Row5 w0 v15 (D4 ++ (f4.take (j + 1)).flatMap fc_) w15) := ⟨by rw [HSN.out]; exact HR15.out⟩; clear hHeld HR10 HR11 HR12 HR13 HR14 HR15 HL10 HL11 HL12 HL13 HL14 HK10 HK11 HK12 HK13 HK14 HBK HBB hb0 hb1 hb2 hb3 hb4 G1 G2 HLE1 HLE2
  go_wp2
  go_roundg (f4.length - (j + 1))
  case measure => omega
  case rel => exact ⟨j + 1, Td_, Td_, Va_, HR16, HBK16, HK15⟩
 have he : j = f4.length := by omega
 have hilz : decide ((j : Int) < (f4.length : Int)) = false := by simp; omega
 have hilz' : decide (j < f4.length) = false := by simp; omega
 have HX5 : Az (Z = (D4 ++ (f4.take j).flatMap fc_) ++ num8 f5.length ++ (f5.take f5.length).flatMap mb_) := ⟨by rw [HX.out, he]⟩
 have HXL5 : Az ((D4 ++ (f4.take j).flatMap fc_).length + 8 + (f5.flatMap mb_).length ≤ 1000000000000) := ⟨by rw [he, List.take_length, List.length_append]; have := HXD.out; omega⟩
 generalize D4 ++ (f4.take j).flatMap fc_ = X at *
 have hc4 : w10.cell? ⟨g, 4, none⟩ = some (.slice A4 f4.length c4) := ba_ HBK.out 4
 have hc5 : w10.cell? ⟨g, 5, none⟩ = some (.slice A5 f5.length c5) := ba_ HBK.out 5
 have HN1 := aM_ (je_ w0 v10 X (f5.length : Int) w10 HR10.out (by have := HXL5.out; omega))
 clear he HXD HX hqq
 go_wp2_with fail
 refine HN1.out.mono ?_
 rintro e w19 ⟨v19, rfl, hr, hk⟩
 have HKD := aM_ (HK10.out.trans hk)
 have HBD := aM_ (hk _ _ _ Tm_ HBK.out)
 have HXD : Az ((X ++ num8 (f5.length : Int)).length + (f5.flatMap mb_).length ≤ 1000000000000) := ⟨by rw [List.length_append, ob_]; have := HXL5.out; omega⟩
 generalize X ++ num8 (f5.length : Int) = D5 at *
 have HRD : Az (Row5 w0 v19 (D5 ++ (f5.take 0).flatMap mb_) w19) := ⟨by rw [List.take_zero]; show Row5 w0 v19 (D5 ++ []) w19; rw [List.append_nil]; exact hr⟩
 clear hr hk hc4 hc5 HN1 HR10 HK10 HBK HXL5
 go_wp2_with fail
 clear hilz hilz' hgg
 go_loopg [8, 0] f5.length (fun gg s8 s0 wq => ∃ i : Nat, i ≤ f5.length ∧ f5.length - i ≤ gg ∧ s8 = .int .i64 i ∧ Az (Row5 w0 s0 (D5 ++ (f5.take i).flatMap mb_) wq) ∧ Az (wq.heap[g]? = some (.cells #[.string f0, .int .i64 f1, .int .i64 f2, .slice A3 f3.length c3, .slice A4 f4.length c4, .slice A5 f5.length c5] 44 (0, 0))) ∧ Az (KeptT W wq))
 case atStart => exact ⟨0, Td_, Td_, rfl, HRD, HBD, HKD⟩
 generalize u0 = v20 at *
 generalize hqq : wr = w20 at *
 clear HRD HBD HKD
 obtain ⟨m, hm, hgg, rfl, HR20, HBK, HK20⟩ := hrel
 by_cases hil : m < f5.length
 ·have hilz : (m : Int) < (f5.length : Int) := by omega
  obtain ⟨ad, A1, c1, hA, e0, e1, l1, g1⟩ := sp_ HC5.out (m : Int) Td_ hilz; subst hA; rw [Int.toNat_natCast] at e0 e1
  have hy : he_ f5 (m : Int) = f5[m] := by
   show f5.getD (m : Int).toNat _ = _; rw [Int.toNat_natCast, List.getD_eq_getElem?_getD, List.getElem?_eq_getElem hil]; rfl
  have hsn := ld_ mb_ f5 m hil; have hle := ye_ mb_ f5 m hil; rw [← hy] at hsn hle; have he8 : mb_ (he_ f5 (m : Int)) = num8 (he_ f5 (m : Int)).f0 ++ num8 (he_ f5 (m : Int)).f1.length ++ (he_ f5 (m : Int)).f1.flatMap lc_ := by unfold mb_ pb_; simp [eb_]
  rw [he8] at hsn hle; generalize (he_ f5 (m : Int)).f0 = z0 at *; generalize (he_ f5 (m : Int)).f1 = z1 at *; have hbn1 : z1.length ≤ 9223372036854775807 := g1.2.1; simp only [List.length_append, ob_] at hle; have hxl : (D5 ++ (f5.take m).flatMap mb_).length + 16 + (z1.flatMap lc_).length ≤ 1000000000000 := by rw [List.length_append]; have := HXD.out; omega
  have HSN : Az (D5 ++ (f5.take (m + 1)).flatMap mb_ = D5 ++ (f5.take m).flatMap mb_ ++ num8 z0 ++ num8 z1.length ++ (z1.take z1.length).flatMap lc_) := ⟨by rw [hsn, List.take_length]; simp only [List.append_assoc]⟩; generalize D5 ++ (f5.take m).flatMap mb_ = X at *; have HL20 : Az (X.length + 8 ≤ 1000000000000) := ⟨Td_⟩; have HL21 : Az ((X ++ num8 z0).length + 8 ≤ 1000000000000) := ⟨Uq_⟩; have HYL : Az ((X ++ num8 z0 ++ num8 z1.length).length + (z1.flatMap lc_).length ≤ 1000000000000) := ⟨Uq_⟩; have E0 := aM_ e0; have E1 := aM_ e1; have G1 := aM_ g1; have hc5 : w20.cell? ⟨g, 5, none⟩ = some (.slice (some ad) f5.length c5) := ba_ HBK.out 5; have he0 := fa_ HR20.out.2 e0; have he1 := fa_ HR20.out.2 e1; clear hy hsn hle he8 hxl e0 e1 g1 l1 hqq
  go_wp2_with fail
  refine fd_ (n := 17) (S := fun w' => w'.cell? ⟨g, 5, none⟩ = some (.slice (some ad) f5.length c5) ∧ w'.cell? (ad.add (m * 2)) = some (.int .i64 z0) ∧ w'.cell? ⟨(ad.add (m * 2)).block, (ad.add (m * 2)).off + 1, none⟩ = some (.slice A1 z1.length c1) ∧ Az (w'.heap[g]? = some (.cells #[.string f0, .int .i64 f1, .int .i64 f2, .slice A3 f3.length c3, .slice A4 f4.length c4, .slice (some ad) f5.length c5] 44 (0, 0)))) (ds := []) (f_ 17 0) Ti_ rfl rfl ⟨hc5, he0, he1, HBK⟩ (fun hHeld => ?_); replace HR20 : Az (Row5 w0 v20 X w20.drew) := ⟨⟨Kd.R_drew HR20.out.1, ga_ HR20.out.2⟩⟩; replace HK20 : Az (KeptT W w20.drew) := ⟨HK20.out⟩; generalize w20.drew = w9 at *; refine pV_ 0 ?_; refine pV_ 1 ?_; refine tV4_ 2 ?_; refine pV_ 3 ?_; refine pV_ 4 ?_; refine pV_ 5 ?_; refine tV4_ 6 ?_; refine pV_ 8 ?_; refine tV4_ 9 ?_; refine pV_ 10 ?_; refine pV_ 11 ?_; refine pV_ 12 ?_; refine tV4_ 13 ?_; refine pV_ 14 ?_; refine oN_ 7 fun K hK => ?_
  refine gO_ Tryz.func49 #[v20, .int .i64 z0] ?_
  refine (je_ w0 v20 X z0 _ HR20.out HL20.out).mono ?_; rintro e w21 ⟨v21, rfl, hr, hk⟩; have HR21 := aM_ hr; have HK21 := aM_ (HK20.out.trans hk); refine ⟨_, rfl, ?_⟩; refine hK.out _ _ ⟨(ba_ (hk _ _ _ Tm_ hHeld.2.2.2.out) 5).trans rfl, fa_ hr.2 E0.out, fa_ hr.2 E1.out, ⟨(hk _ _ _ Tm_ hHeld.2.2.2.out)⟩⟩ (fun hHeld => ?_); clear hK K; refine nO_ ?_; refine oN_ 15 fun K hK => ?_
  refine gO_ Tryz.func49 #[v21, .int .i64 (z1.length : Int)] ?_
  refine (je_ w0 v21 (X ++ num8 z0) (z1.length : Int) _ HR21.out HL21.out).mono ?_; rintro e w22 ⟨v22, rfl, hr, hk⟩; have HR22 := aM_ hr; have HK22 := aM_ (HK21.out.trans hk); refine ⟨_, rfl, ?_⟩; refine hK.out _ _ ⟨(ba_ (hk _ _ _ Tm_ hHeld.2.2.2.out) 5).trans rfl, fa_ hr.2 E0.out, fa_ hr.2 E1.out, ⟨(hk _ _ _ Tm_ hHeld.2.2.2.out)⟩⟩ (fun hHeld => ?_); clear hK K; refine nO_ ?_; refine pV_ 16 ?_; refine wd_ Ti_ ?_; have HBK22 := hHeld.2.2.2; have HK22' := HK22; generalize X ++ num8 z0 ++ num8 (z1.length : Int) = Y at *; have HRY : Az (Row5 w0 v22 (Y ++ (z1.take 0).flatMap lc_) w22) := ⟨by rw [List.take_zero]; show Row5 w0 v22 (Y ++ []) w22; rw [List.append_nil]; exact HR22.out⟩; clear hHeld HR20 HR21 HR22 HL20 HL21 HK20 HK21 HK22 HBK hc5 he0 he1
  go_wp2_with fail
  go_loopg [9, 0] z1.length (fun gg s9 s0 wq => ∃ i : Nat, i ≤ z1.length ∧ z1.length - i ≤ gg ∧ s9 = .int .i64 i ∧ Az (Row5 w0 s0 (Y ++ (z1.take i).flatMap lc_) wq) ∧ Az (wq.heap[g]? = some (.cells #[.string f0, .int .i64 f1, .int .i64 f2, .slice A3 f3.length c3, .slice A4 f4.length c4, .slice (some ad) f5.length c5] 44 (0, 0))) ∧ Az (KeptT W wq))
  case atStart => exact ⟨0, Td_, Td_, rfl, HRY, HBK22, HK22'⟩
  generalize u0 = v30 at *; generalize hqq : wr = w30 at *; clear HRY HBK22 HK22'; obtain ⟨q, hq, hgq, rfl, HR30, HBK, HK30⟩ := hrel; have hc5 : w30.cell? ⟨g, 5, none⟩ = some (.slice (some ad) f5.length c5) := ba_ HBK.out 5; have he1 := fa_ HR30.out.2 E1.out
  by_cases hiq : q < z1.length
  ·have hiqz : (q : Int) < (z1.length : Int) := by omega
   obtain ⟨ad2, hA, e0, e1, e2, e3, e4⟩ := kt_ G1.out (q : Int) Td_ hiqz; subst hA; rw [Int.toNat_natCast] at e0 e1 e2 e3 e4
   have hy : pd_ z1 (q : Int) = z1[q] := by
    show z1.getD (q : Int).toNat _ = _; rw [Int.toNat_natCast, List.getD_eq_getElem?_getD, List.getElem?_eq_getElem hiq]; rfl
   have hsn := ld_ lc_ z1 q hiq; have hle := ye_ lc_ z1 q hiq; rw [← hy] at hsn hle; have hp8 : lc_ (pd_ z1 (q : Int)) = num8 (pd_ z1 (q : Int)).f0 ++ txt8 (pd_ z1 (q : Int)).f1 ++ num8 (pd_ z1 (q : Int)).f2 ++ num8 (pd_ z1 (q : Int)).f3 ++ num8 (pd_ z1 (q : Int)).f4 := by unfold lc_; simp [eb_]
   rw [hp8] at hsn hle; generalize (pd_ z1 (q : Int)).f0 = y0 at *; generalize (pd_ z1 (q : Int)).f1 = y1 at *; generalize (pd_ z1 (q : Int)).f2 = y2 at *; generalize (pd_ z1 (q : Int)).f3 = y3 at *; generalize (pd_ z1 (q : Int)).f4 = y4 at *; simp only [List.length_append, ob_] at hle; have hxl : (Y ++ (z1.take q).flatMap lc_).length + (txt8 y1).length + 32 ≤ 1000000000000 := by rw [List.length_append]; have := HYL.out; omega
   have HSP : Az (Y ++ (z1.take (q + 1)).flatMap lc_ = Y ++ (z1.take q).flatMap lc_ ++ num8 y0 ++ txt8 y1 ++ num8 y2 ++ num8 y3 ++ num8 y4) := ⟨by rw [hsn]; simp only [List.append_assoc]⟩; generalize Y ++ (z1.take q).flatMap lc_ = X at *; have HL30 : Az (X.length + 8 ≤ 1000000000000) := ⟨Td_⟩; have HL31 : Az ((X ++ num8 y0).length + (txt8 y1).length ≤ 1000000000000) := ⟨Uq_⟩; have HL32 : Az ((X ++ num8 y0 ++ txt8 y1).length + 8 ≤ 1000000000000) := ⟨Uq_⟩; have HL33 : Az ((X ++ num8 y0 ++ txt8 y1 ++ num8 y2).length + 8 ≤ 1000000000000) := ⟨Uq_⟩; have HL34 : Az ((X ++ num8 y0 ++ txt8 y1 ++ num8 y2 ++ num8 y3).length + 8 ≤ 1000000000000) := ⟨Uq_⟩; have hp0 := fa_ HR30.out.2 e0; have hp1 := fa_ HR30.out.2 e1; have hp2 := fa_ HR30.out.2 e2; have hp3 := fa_ HR30.out.2 e3; have hp4 := fa_ HR30.out.2 e4; have HBB : Az ((w30.alloc (.cells #[.int .i64 y0, .string y1, .int .i64 y2, .int .i64 y3, .int .i64 y4] 48)).heap[w30.heap.size]? = some (.cells #[.int .i64 y0, .string y1, .int .i64 y2, .int .i64 y3, .int .i64 y4] 48 (0, 0))) := ⟨oa_ w30 _⟩; replace HBK : Az ((w30.alloc (.cells #[.int .i64 y0, .string y1, .int .i64 y2, .int .i64 y3, .int .i64 y4] 48)).heap[g]? = some (.cells #[.string f0, .int .i64 f1, .int .i64 f2, .slice A3 f3.length c3, .slice A4 f4.length c4, .slice (some ad) f5.length c5] 44 (0, 0))) := ⟨la_ HBK.out (aa_ (Below.refl _ _) _)⟩; replace HR30 : Az (Row5 w0 v30 X (w30.alloc (.cells #[.int .i64 y0, .string y1, .int .i64 y2, .int .i64 y3, .int .i64 y4] 48))) := ⟨⟨Kd.R_alloc HR30.out.1 _, da_ HR30.out.2 (aa_ (Below.refl _ _) _)⟩⟩; replace HK30 : Az (KeptT W (w30.alloc (.cells #[.int .i64 y0, .string y1, .int .i64 y2, .int .i64 y3, .int .i64 y4] 48))) := ⟨HK30.out.trans (KeptT.below (aa_ (Below.refl _ _) _))⟩; clear hy hsn hle hp8 hxl e0 e1 e2 e3 e4 hqq
   go_wp2_with fail
   generalize w30.alloc (.cells #[.int .i64 y0, .string y1, .int .i64 y2, .int .i64 y3, .int .i64 y4] 48) = w31 at *; generalize w30.heap.size = b at *; have hb0 : w31.cell? ⟨b, 0, none⟩ = some (.int .i64 y0) := ba_ HBB.out 0; have hb1 : w31.cell? ⟨b, 1, none⟩ = some (.string y1) := ba_ HBB.out 1; have hb2 : w31.cell? ⟨b, 2, none⟩ = some (.int .i64 y2) := ba_ HBB.out 2; have hb3 : w31.cell? ⟨b, 3, none⟩ = some (.int .i64 y3) := ba_ HBB.out 3; have hb4 : w31.cell? ⟨b, 4, none⟩ = some (.int .i64 y4) := ba_ HBB.out 4; clear hc5 he1 hp0 hp1 hp2 hp3 hp4; refine fd_ (n := 17) (S := fun w' => w'.cell? ⟨b, 0, none⟩ = some (.int .i64 y0) ∧ w'.cell? ⟨b, 1, none⟩ = some (.string y1) ∧ w'.cell? ⟨b, 2, none⟩ = some (.int .i64 y2) ∧ w'.cell? ⟨b, 3, none⟩ = some (.int .i64 y3) ∧ w'.cell? ⟨b, 4, none⟩ = some (.int .i64 y4) ∧ Az (w'.heap[g]? = some (.cells #[.string f0, .int .i64 f1, .int .i64 f2, .slice A3 f3.length c3, .slice A4 f4.length c4, .slice (some ad) f5.length c5] 44 (0, 0))) ∧ Az (w'.heap[b]? = some (.cells #[.int .i64 y0, .string y1, .int .i64 y2, .int .i64 y3, .int .i64 y4] 48 (0, 0)))) (ds := []) (f_ 17 0) Ti_ rfl rfl ⟨hb0, hb1, hb2, hb3, hb4, HBK, HBB⟩ (fun hHeld => ?_); replace HR30 : Az (Row5 w0 v30 X w31.drew) := ⟨⟨Kd.R_drew HR30.out.1, ga_ HR30.out.2⟩⟩; replace HK30 : Az (KeptT W w31.drew) := ⟨HK30.out⟩; generalize w31.drew = w9 at *; refine pV_ 0 ?_; refine pV_ 1 ?_; refine tV7_ 2 ?_; refine pV_ 4 ?_; refine tV7_ 5 ?_; refine pV_ 7 ?_; refine tV7_ 8 ?_; refine pV_ 10 ?_; refine tV7_ 11 ?_; refine pV_ 13 ?_; refine tV7_ 14 ?_; refine oN_ 3 fun K hK => ?_
   refine gO_ Tryz.func49 #[v30, .int .i64 y0] ?_
   refine (je_ w0 v30 X y0 _ HR30.out HL30.out).mono ?_; rintro e w31 ⟨v31, rfl, hr, hk⟩; have HR31 := aM_ hr; have HK31 := aM_ (HK30.out.trans hk); refine ⟨_, rfl, ?_⟩; refine hK.out _ _ ⟨(ba_ (hk _ _ _ Tm_ hHeld.2.2.2.2.2.2.out) 0).trans rfl, (ba_ (hk _ _ _ Tm_ hHeld.2.2.2.2.2.2.out) 1).trans rfl, (ba_ (hk _ _ _ Tm_ hHeld.2.2.2.2.2.2.out) 2).trans rfl, (ba_ (hk _ _ _ Tm_ hHeld.2.2.2.2.2.2.out) 3).trans rfl, (ba_ (hk _ _ _ Tm_ hHeld.2.2.2.2.2.2.out) 4).trans rfl, ⟨(hk _ _ _ Tm_ hHeld.2.2.2.2.2.1.out)⟩, ⟨(hk _ _ _ Tm_ hHeld.2.2.2.2.2.2.out)⟩⟩ (fun hHeld => ?_); clear hK K; refine nO_ ?_; refine oN_ 6 fun K hK => ?_
   refine gO_ Tryz.func103 #[v31, .string y1] ?_
   refine (uo_ w0 v31 (X ++ num8 y0) y1 _ HR31.out HL31.out).mono ?_; rintro e w32 ⟨v32, rfl, hr, hk⟩; have HR32 := aM_ hr; have HK32 := aM_ (HK31.out.trans hk); refine ⟨_, rfl, ?_⟩; refine hK.out _ _ ⟨(ba_ (hk _ _ _ Tm_ hHeld.2.2.2.2.2.2.out) 0).trans rfl, (ba_ (hk _ _ _ Tm_ hHeld.2.2.2.2.2.2.out) 1).trans rfl, (ba_ (hk _ _ _ Tm_ hHeld.2.2.2.2.2.2.out) 2).trans rfl, (ba_ (hk _ _ _ Tm_ hHeld.2.2.2.2.2.2.out) 3).trans rfl, (ba_ (hk _ _ _ Tm_ hHeld.2.2.2.2.2.2.out) 4).trans rfl, ⟨(hk _ _ _ Tm_ hHeld.2.2.2.2.2.1.out)⟩, ⟨(hk _ _ _ Tm_ hHeld.2.2.2.2.2.2.out)⟩⟩ (fun hHeld => ?_); clear hK K; refine nO_ ?_; refine oN_ 9 fun K hK => ?_
   refine gO_ Tryz.func49 #[v32, .int .i64 y2] ?_
   refine (je_ w0 v32 (X ++ num8 y0 ++ txt8 y1) y2 _ HR32.out HL32.out).mono ?_; rintro e w33 ⟨v33, rfl, hr, hk⟩; have HR33 := aM_ hr; have HK33 := aM_ (HK32.out.trans hk); refine ⟨_, rfl, ?_⟩; refine hK.out _ _ ⟨(ba_ (hk _ _ _ Tm_ hHeld.2.2.2.2.2.2.out) 0).trans rfl, (ba_ (hk _ _ _ Tm_ hHeld.2.2.2.2.2.2.out) 1).trans rfl, (ba_ (hk _ _ _ Tm_ hHeld.2.2.2.2.2.2.out) 2).trans rfl, (ba_ (hk _ _ _ Tm_ hHeld.2.2.2.2.2.2.out) 3).trans rfl, (ba_ (hk _ _ _ Tm_ hHeld.2.2.2.2.2.2.out) 4).trans rfl, ⟨(hk _ _ _ Tm_ hHeld.2.2.2.2.2.1.out)⟩, ⟨(hk _ _ _ Tm_ hHeld.2.2.2.2.2.2.out)⟩⟩ (fun hHeld => ?_); clear hK K; refine nO_ ?_; refine oN_ 12 fun K hK => ?_
   refine gO_ Tryz.func49 #[v33, .int .i64 y3] ?_
   refine (je_ w0 v33 (X ++ num8 y0 ++ txt8 y1 ++ num8 y2) y3 _ HR33.out HL33.out).mono ?_; rintro e w34 ⟨v34, rfl, hr, hk⟩; have HR34 := aM_ hr; have HK34 := aM_ (HK33.out.trans hk); refine ⟨_, rfl, ?_⟩; refine hK.out _ _ ⟨(ba_ (hk _ _ _ Tm_ hHeld.2.2.2.2.2.2.out) 0).trans rfl, (ba_ (hk _ _ _ Tm_ hHeld.2.2.2.2.2.2.out) 1).trans rfl, (ba_ (hk _ _ _ Tm_ hHeld.2.2.2.2.2.2.out) 2).trans rfl, (ba_ (hk _ _ _ Tm_ hHeld.2.2.2.2.2.2.out) 3).trans rfl, (ba_ (hk _ _ _ Tm_ hHeld.2.2.2.2.2.2.out) 4).trans rfl, ⟨(hk _ _ _ Tm_ hHeld.2.2.2.2.2.1.out)⟩, ⟨(hk _ _ _ Tm_ hHeld.2.2.2.2.2.2.out)⟩⟩ (fun hHeld => ?_); clear hK K; refine nO_ ?_; refine oN_ 15 fun K hK => ?_
   refine gO_ Tryz.func49 #[v34, .int .i64 y4] ?_
   refine (je_ w0 v34 (X ++ num8 y0 ++ txt8 y1 ++ num8 y2 ++ num8 y3) y4 _ HR34.out HL34.out).mono ?_; rintro e w35 ⟨v35, rfl, hr, hk⟩; have HR35 := aM_ hr; have HK35 := aM_ (HK34.out.trans hk); refine ⟨_, rfl, ?_⟩; refine hK.out _ _ ⟨(ba_ (hk _ _ _ Tm_ hHeld.2.2.2.2.2.2.out) 0).trans rfl, (ba_ (hk _ _ _ Tm_ hHeld.2.2.2.2.2.2.out) 1).trans rfl, (ba_ (hk _ _ _ Tm_ hHeld.2.2.2.2.2.2.out) 2).trans rfl, (ba_ (hk _ _ _ Tm_ hHeld.2.2.2.2.2.2.out) 3).trans rfl, (ba_ (hk _ _ _ Tm_ hHeld.2.2.2.2.2.2.out) 4).trans rfl, ⟨(hk _ _ _ Tm_ hHeld.2.2.2.2.2.1.out)⟩, ⟨(hk _ _ _ Tm_ hHeld.2.2.2.2.2.2.out)⟩⟩ (fun hHeld => ?_); clear hK K; refine nO_ ?_; refine pV_ 16 ?_; refine wd_ Ti_ ?_; have HBK36 := hHeld.2.2.2.2.2.1; have HR36 : Az (Row5 w0 v35 (Y ++ (z1.take (q + 1)).flatMap lc_) w35) := ⟨by rw [HSP.out]; exact HR35.out⟩; clear hHeld HR30 HR31 HR32 HR33 HR34 HR35 HL30 HL31 HL32 HL33 HL34 HK30 HK31 HK32 HK33 HK34 HBK HBB hb0 hb1 hb2 hb3 hb4 HSP
   go_wp2
   go_roundg (z1.length - (q + 1))
   case measure => omega
   case rel => exact ⟨q + 1, Td_, Td_, Va_, HR36, HBK36, HK35⟩
  have he : q = z1.length := by omega
  have hiqz : decide ((q : Int) < (z1.length : Int)) = false := by simp; omega
  have hiqz' : decide (q < z1.length) = false := by simp; omega
  have HR36 : Az (Row5 w0 v30 (D5 ++ (f5.take (m + 1)).flatMap mb_) w30) := ⟨by rw [HSN.out, ← he]; exact HR30.out⟩; clear he HSN HR30 hqq
  go_wp2
  go_roundg (f5.length - (m + 1))
  case measure => omega
  case rel => exact ⟨m + 1, Td_, Td_, Va_, HR36, HBK, HK30⟩
 have he : m = f5.length := by omega
 have hilz : decide ((m : Int) < (f5.length : Int)) = false := by simp; omega
 have hilz' : decide (m < f5.length) = false := by simp; omega
 have hc5 : w20.cell? ⟨g, 5, none⟩ = some (.slice A5 f5.length c5) := ba_ HBK.out 5
 have HRZ : Az (Row5 w0 v20 Z w20) := ⟨by rw [HX5.out, ← he]; exact HR20.out⟩
 clear he HX5 HR20 hqq
 go_wp2
 go_ret
 exact ⟨_, rfl, HRZ.out, HK20.out⟩
theorem tm_ (A : Option Addr) (c : Nat) (l : List S44) (w : World) (hr : Kd.C k44 w A l.length l) (hc : l.length ≤ c) (hl : (enc8 l).length ≤ 1000000000000) :
  Calls Tryz.prog 17 #[.slice A l.length c] w fun e w' => ∃ v, e = .returned v ∧ Kd.R (Kd.int .u8) 5 w' w.heap.size (fun _ => True) v (enc8 l) ∧ Below w.heap.size w w' := by
 have hE8 : enc8 l = num8 l.length ++ (l.take l.length).flatMap loc8 := by rw [List.take_length]; unfold enc8 pb_ eb_; simp
 have hEL : 8 + (l.flatMap loc8).length ≤ 1000000000000 := by rw [hE8, List.take_length, List.length_append, ob_] at hl; exact hl
 have HE8 := aM_ hE8
 have HEL := aM_ hEL
 have HC := aM_ hr
 have hbn : l.length ≤ 9223372036854775807 := hr.2.1
 generalize enc8 l = Z at *
 have HN := aM_ (je_ w (.slice none 0 0) [] l.length w ⟨Kd.R_nil _ _ _ _ _, Below.refl _ _⟩ Tt_)
 clear hE8 hEL hr hl
 go_enter Tryz.func17, Tryz.ntmps17
 go_wp2_with fail
 refine HN.out.mono ?_
 rintro e w1 ⟨v1, rfl, hr, hk⟩
 have HR1 : Az (Row5 w v1 (num8 l.length ++ (l.take 0).flatMap loc8) w1) := ⟨by rw [List.take_zero]; show Row5 w v1 (num8 l.length ++ []) w1; rw [List.append_nil]; exact hr⟩
 clear hr hk HN
 go_wp2_with fail
 go_loopg [4, 3] l.length (fun gg s4 s3 wr => ∃ i : Nat, i ≤ l.length ∧ l.length - i ≤ gg ∧ s4 = .int .i64 i ∧ Az (Row5 w s3 (num8 l.length ++ (l.take i).flatMap loc8) wr))
 case atStart => exact ⟨0, Td_, Td_, rfl, HR1⟩
 clear HR1
 obtain ⟨i, hi, hgg, rfl, HR⟩ := hrel
 by_cases hil : i < l.length
 ·have hilz : (i : Int) < (l.length : Int) := by omega
  obtain ⟨ad, A3, c3, A4, c4, A5, c5, hA, h0, h1, h2, h3, h4, h5, l3, g3, l4, g4, l5, g5⟩ := tf_ HC.out (i : Int) Td_ hilz; subst hA; rw [Int.toNat_natCast] at h0 h1 h2 h3 h4 h5
  have hy : pa_ l (i : Int) = l[i] := by
   show l.getD (i : Int).toNat _ = _; rw [Int.toNat_natCast, List.getD_eq_getElem?_getD, List.getElem?_eq_getElem hil]; rfl
  have hsn := ld_ loc8 l i hil; have hle := ye_ loc8 l i hil; rw [← hy] at hsn hle; generalize pa_ l (i : Int) = y at *; have hr := HR.out.2; replace h0 := fa_ hr h0; replace h1 := fa_ hr h1; replace h2 := fa_ hr h2; replace h3 := fa_ hr h3; replace h4 := fa_ hr h4; replace h5 := fa_ hr h5; have HSN : Az (num8 l.length ++ (l.take (i + 1)).flatMap loc8 = num8 l.length ++ (l.take i).flatMap loc8 ++ loc8 y) := ⟨by rw [hsn, List.append_assoc]⟩; have HLC := aM_ (ms_ w u3 (num8 l.length ++ (l.take i).flatMap loc8) y A3 A4 A5 c3 c4 c5 wr HR.out g3 l3 g4 l4 g5 l5 (by rw [List.length_append, ob_]; have := HEL.out; omega)); clear hy hsn hle hr l3 g3 l4 g4 l5 g5
  go_wp2_with fail
  refine HLC.out.mono ?_; rintro e w2 ⟨v2, rfl, hr, hk⟩; have HR2 : Az (Row5 w v2 (num8 l.length ++ (l.take (i + 1)).flatMap loc8) w2) := ⟨by rw [HSN.out]; exact hr⟩; clear hr hk HLC HR h0 h1 h2 h3 h4 h5
  go_wp2
  go_roundg (l.length - (i + 1))
  case measure => omega
  case rel => exact ⟨i + 1, Td_, Td_, Va_, HR2⟩
 have he : i = l.length := by omega
 have hilz : decide ((i : Int) < (l.length : Int)) = false := by simp; omega
 have hilz' : decide (i < l.length) = false := by simp; omega
 have HR2 : Az (Row5 w u3 Z wr) := ⟨by rw [HE8.out]; rw [he] at HR; exact HR.out⟩
 clear he HR
 go_wp2
 go_ret
 exact ⟨_, rfl, HR2.out.1, HR2.out.2⟩
def pf_ (a b : List S44) : Bool := (strOfNums (enc8 a)).toList == (strOfNums (enc8 b)).toList
theorem pt_ (A B : Option Addr) (ca cb : Nat) (la lb : List S44) (w : World) (hr1 : Kd.C k44 w A la.length la) (hc1 : la.length ≤ ca) (hl1 : (enc8 la).length ≤ 1000000000000) (hr2 : Kd.C k44 w B lb.length lb) (hc2 : lb.length ≤ cb) (hl2 : (enc8 lb).length ≤ 1000000000000) :
  Calls Tryz.prog 18 #[.slice A la.length ca, .slice B lb.length cb] w fun e w' => e = .returned (.bool (pf_ la lb)) ∧ Below w.heap.size w w' := by
 have HE1 : Az (∀ W, Below w.heap.size w W → Calls Tryz.prog 17 #[.slice A la.length ca] W fun e w' => ∃ v, e = .returned v ∧ Kd.R (Kd.int .u8) 5 w' W.heap.size (fun _ => True) v (enc8 la) ∧ Below W.heap.size W w') := ⟨fun W hB => tm_ A ca la W (Kd.C_below hr1 hB) hc1 hl1⟩
 have HE2 : Az (∀ W, Below w.heap.size w W → Calls Tryz.prog 17 #[.slice B lb.length cb] W fun e w' => ∃ v, e = .returned v ∧ Kd.R (Kd.int .u8) 5 w' W.heap.size (fun _ => True) v (enc8 lb) ∧ Below W.heap.size W w') := ⟨fun W hB => tm_ B cb lb W (Kd.C_below hr2 hB) hc2 hl2⟩
 have HS : Az (pf_ la lb = ((strOfNums (enc8 la)).toList == (strOfNums (enc8 lb)).toList)) := ⟨rfl⟩
 generalize pf_ la lb = r at *
 generalize enc8 la = ea at *
 generalize enc8 lb = eb at *
 have HB0 : Az (Below w.heap.size w w) := ⟨Below.refl _ _⟩
 clear hr1 hc1 hl1 hr2 hc2 hl2
 go_enter Tryz.func18, Tryz.ntmps18
 go_wp2_with fail
 refine fd_ (n := 8) (S := fun w' => w'.heap.size = w'.heap.size ∧ Az (Below w.heap.size w w')) (ds := []) (f_ 8 0) Ti_ rfl rfl ⟨rfl, ⟨ga_ HB0.out⟩⟩ (fun hHeld => ?_)
 refine pV_ 0 ?_
 refine pV_ 3 ?_
 refine oN_ 1 fun K hK => ?_
 refine gO_ Tryz.func17 #[.slice A la.length ca] ?_
 refine (HE1.out _ hHeld.2.out).mono ?_
 rintro e w1 ⟨v1, rfl, hr, hb⟩
 obtain ⟨S1, k1, hs1⟩ := Kd.R_slice hr
 subst hs1
 have HR1 := aM_ hr
 refine ⟨_, rfl, ?_⟩
 refine hK.out _ _ ⟨rfl, ⟨da_ hHeld.2.out hb⟩⟩ (fun hHeld => ?_)
 clear hK K
 refine nO_ ?_
 refine wN_ 2 4 (fun K hK => ?_) fun K hK => ?_
 ·have hcv : (convert 28 9 (.slice S1 ea.length k1)).run Tryz.prog w1 = .ok (.string (strOfNums ea)) w1 := Kd.C_string Tryz.underlying28 Tryz.underlying5 Tryz.underlying9 (Kd.R_reads' HR1.out).2.2
  refine cd_ (w1 := w1) (v := .string (strOfNums ea)) Vh_ rfl ?_ ?_
  ·go_simp
  clear hcv; refine hK.out _ _ hHeld (fun hHeld => ?_); clear hK K; refine nO_ ?_; refine oN_ 4 fun K hK => ?_
  refine gO_ Tryz.func17 #[.slice B lb.length cb] ?_
  refine (HE2.out _ hHeld.2.out).mono ?_; rintro e w2 ⟨v2, rfl, hr, hb⟩; obtain ⟨S2, k2, hs2⟩ := Kd.R_slice hr; subst hs2; have HR2 := aM_ hr; have HQ1 := aM_ (Kd.R_below HR1.out hb); refine ⟨_, rfl, ?_⟩; refine hK.out _ _ ⟨rfl, ⟨da_ hHeld.2.out hb⟩⟩ (fun hHeld => ?_); clear hK K; refine nO_ ?_; refine oN_ 5 fun K hK => ?_
  have hcv : (convert 28 9 (.slice S2 eb.length k2)).run Tryz.prog w2 = .ok (.string (strOfNums eb)) w2 := Kd.C_string Tryz.underlying28 Tryz.underlying5 Tryz.underlying9 (Kd.R_reads' HR2.out).2.2; refine cd_ (w1 := w2) (v := .string (strOfNums eb)) Vh_ rfl ?_ ?_
  ·go_simp
  clear hcv; refine hK.out _ _ hHeld (fun hHeld => ?_); clear hK K; refine nO_ ?_; refine pV_ 6 ?_; refine pV_ 7 ?_; refine wd_ Ti_ ?_
  go_wp2
  go_ret
  rw [HS.out]; exact ⟨rfl, hHeld.2.out⟩
 refine gO_ Tryz.func17 #[.slice B lb.length cb] ?_
 refine (HE2.out _ hHeld.2.out).mono ?_
 rintro e w2 ⟨v2, rfl, hr, hb⟩
 obtain ⟨S2, k2, hs2⟩ := Kd.R_slice hr
 subst hs2
 have HR2 := aM_ hr
 have HQ1 := aM_ (Kd.R_below HR1.out hb)
 refine ⟨_, rfl, ?_⟩
 refine hK.out _ _ ⟨rfl, ⟨da_ hHeld.2.out hb⟩⟩ (fun hHeld => ?_)
 clear hK K
 refine nO_ ?_
 refine wN_ 2 5 (fun K hK => ?_) fun K hK => ?_
 ·have hcv : (convert 28 9 (.slice S1 ea.length k1)).run Tryz.prog w2 = .ok (.string (strOfNums ea)) w2 := Kd.C_string Tryz.underlying28 Tryz.underlying5 Tryz.underlying9 (Kd.R_reads' HQ1.out).2.2
  refine cd_ (w1 := w2) (v := .string (strOfNums ea)) Vh_ rfl ?_ ?_
  ·go_simp
  clear hcv; refine hK.out _ _ hHeld (fun hHeld => ?_); clear hK K; refine nO_ ?_; refine oN_ 5 fun K hK => ?_
  have hcv : (convert 28 9 (.slice S2 eb.length k2)).run Tryz.prog w2 = .ok (.string (strOfNums eb)) w2 := Kd.C_string Tryz.underlying28 Tryz.underlying5 Tryz.underlying9 (Kd.R_reads' HR2.out).2.2; refine cd_ (w1 := w2) (v := .string (strOfNums eb)) Vh_ rfl ?_ ?_
  ·go_simp
  clear hcv; refine hK.out _ _ hHeld (fun hHeld => ?_); clear hK K; refine nO_ ?_; refine pV_ 6 ?_; refine pV_ 7 ?_; refine wd_ Ti_ ?_
  go_wp2
  go_ret
  rw [HS.out]; exact ⟨rfl, hHeld.2.out⟩
 have hcv : (convert 28 9 (.slice S2 eb.length k2)).run Tryz.prog w2 = .ok (.string (strOfNums eb)) w2 := Kd.C_string Tryz.underlying28 Tryz.underlying5 Tryz.underlying9 (Kd.R_reads' HR2.out).2.2
 refine cd_ (w1 := w2) (v := .string (strOfNums eb)) Vh_ rfl ?_ ?_
 ·go_simp
 clear hcv
 refine hK.out _ _ hHeld (fun hHeld => ?_)
 clear hK K
 refine nO_ ?_
 refine oN_ 2 fun K hK => ?_
 have hcv : (convert 28 9 (.slice S1 ea.length k1)).run Tryz.prog w2 = .ok (.string (strOfNums ea)) w2 := Kd.C_string Tryz.underlying28 Tryz.underlying5 Tryz.underlying9 (Kd.R_reads' HQ1.out).2.2
 refine cd_ (w1 := w2) (v := .string (strOfNums ea)) Vh_ rfl ?_ ?_
 ·go_simp
 clear hcv
 refine hK.out _ _ hHeld (fun hHeld => ?_)
 clear hK K
 refine nO_ ?_
 refine pV_ 6 ?_
 refine pV_ 7 ?_
 refine wd_ Ti_ ?_
 go_wp2
 go_ret
 rw [HS.out]
 exact ⟨rfl, hHeld.2.out⟩
def ab_ {α : Type} (rd : Nat → Option (α × Nat)) : Nat → Nat → Option (List α × Nat)
 | 0, q => some ([], q)
 | n + 1, q => (rd q).bind fun z => (ab_ rd n z.2).map fun y => (z.1 :: y.1, y.2)
def hb_ {α : Type} (rd : Nat → Option (α × Nat)) (b : List Int) (p : Nat) : Option (List α × Nat) := (pNum b p).bind fun z => if z.1 < 0 ∨ ((b.length : Int) - z.2) / 8 < z.1 then none else ab_ rd z.1.toNat z.2
theorem Kd.R_own_lt {α : Type} {d : Kd α} {e base : Nat} {ok : Nat → Prop} {w : World} {v : Value} {xs : List α} (h : d.R e w base ok v xs) {k : Nat} (hk : v.ownBlock = some k) : k < w.heap.size := by
 obtain ⟨inner, ho⟩ := Kd.R_own h
 exact es_ ho k hk
theorem uq_ (w0 : World) (h : Nat) (A : Option Addr) (b : List Int) (c p : Nat) (W : World) (hs : Src w0 A b c) (hr : RdAt w0 h A b c p W) :
  Calls Tryz.prog 127 #[.pointer (some ⟨h, 0, none⟩), .func (.func 82) #[.pointer (some ⟨h, 0, none⟩)] #[]] W fun e W' => Rd w0 h A b c W (VR (Kd.int .i64) 3 w0 W) e W' (hb_ (pNum b) b p) := by
 have HS := aM_ hs
 have hlb := hs.len
 have HG : Az (h < W.heap.size) := ⟨bb_ hr.blk⟩
 have HP0 : Az (hb_ (pNum b) b p = (pNum b p).bind fun z => if z.1 < 0 ∨ ((b.length : Int) - z.2) / 8 < z.1 then none else ab_ (pNum b) z.1.toNat z.2) := ⟨rfl⟩
 have HQ0 := aM_ (ic_ w0 h A b c p W hs hr)
 clear hs hr
 go_enter Tryz.func127, Tryz.ntmps127
 go_wp2_with fail
 refine HQ0.out.mono ?_
 intro e w1 hq
 cases hp : pNum b p with
 | none =>
  rw [hp] at hq; obtain ⟨⟨T, v, rfl⟩, hbl⟩ := hq
  exact ⟨rfl, Ux_⟩
 | some z =>
  obtain ⟨n, q0⟩ := z; rw [hp] at hq; obtain ⟨⟨v, rfl, rfl⟩, hr1, hk1⟩ := hq; have HP1 : Az (hb_ (pNum b) b p = if n < 0 ∨ ((b.length : Int) - q0) / 8 < n then none else ab_ (pNum b) n.toNat q0) := ⟨We_⟩; have hpos := hr1.pos; have c0 : w1.cell? ⟨h, 0, none⟩ = some (.slice A b.length c) := ba_ hr1.blk 0; have c1 : w1.cell? ⟨h, 1, none⟩ = some (.int .i64 (q0 : Int)) := ba_ hr1.blk 1; have HR1 := aM_ hr1; have HK1 := aM_ hk1; have hw1 : wrap64 ((b.length : Int) - (q0 : Int)) = (b.length : Int) - (q0 : Int) := by rw [wrap64]; omega
  have hw2 : wrap64 (((b.length : Int) - (q0 : Int)) / 8) = ((b.length : Int) - (q0 : Int)) / 8 := by rw [wrap64]; omega
  have hdd : ((b.length : Int) - (q0 : Int)) / 8 ≤ 125000000000 := by omega
  clear hr1 hk1 hp HQ0 HP0
  by_cases hbad : n < 0 ∨ ((b.length : Int) - (q0 : Int)) / 8 < n
  ·have HPP : Az (hb_ (pNum b) b p = none) := ⟨Wz_⟩
   by_cases hn0 : n < 0
   ·have e1 : decide (n < 0) = true := decide_eq_true hn0
    clear hbad hn0
    go_wp2
    go_quiet (fail)
    go_wp2
    refine ⟨rfl, ?_⟩; rw [HPP.out]; exact ⟨⟨_, _, rfl⟩, da_ HR1.out.below (ca_ (Below.refl _ _) _)⟩
   have e1 : decide (n < 0) = false := decide_eq_false hn0; have e2 : decide (((b.length : Int) - (q0 : Int)) / 8 < n) = true := decide_eq_true Td_; clear hbad hn0
   go_wp2
   go_quiet (fail)
   go_wp2
   refine ⟨rfl, ?_⟩; rw [HPP.out]; exact ⟨⟨_, _, rfl⟩, da_ HR1.out.below (ca_ (Below.refl _ _) _)⟩
  obtain ⟨m, rfl⟩ : ∃ m : Nat, n = (m : Int) := ⟨n.toNat, Td_⟩; have hm : m ≤ 125000000000 := by omega
  have e1 : decide ((m : Int) < 0) = false := decide_eq_false Td_; have e2 : decide (((b.length : Int) - (q0 : Int)) / 8 < (m : Int)) = false := decide_eq_false Td_; have HPP : Az (hb_ (pNum b) b p = ab_ (pNum b) m q0) := ⟨Wa_⟩; clear hbad HP1
  go_wp2
  go_quiet (fail)
  have HR2 : Az (RdAt w0 h A b c q0 (w1.drewN nq)) := ⟨⟨HR1.out.blk, ca_ HR1.out.below _, HR1.out.ge, HR1.out.pos⟩⟩; have HK2 : Az (KeptR h W (w1.drewN nq)) := ⟨HK1.out.trans (KeptR.below (ca_ (Below.refl _ _) _))⟩; have HR0 : Az (Kd.R (Kd.int .i64) 3 (w1.drewN nq) w0.heap.size (fun k => W.heap.size ≤ k) (.slice none 0 0) []) := ⟨Kd.R_nil _ _ _ _ _⟩; have HT0 : Az (ab_ (pNum b) m q0 = (ab_ (pNum b) (m - 0) q0).map fun y => ([] ++ y.1, y.2)) := ⟨Tt_⟩; clear HR1 HK1 c0 c1; generalize w1.drewN nq = w2 at *
  go_wp2
  go_loopg [6, 33] m (fun gg s6 s33 wr => ∃ (i : Nat) (xs : List Int) (q : Nat), i ≤ m ∧ m - i ≤ gg ∧ s33 = .int .i64 i ∧ Az (xs.length = i) ∧ Az (ab_ (pNum b) m q0 = (ab_ (pNum b) (m - i) q).map fun y => (xs ++ y.1, y.2)) ∧ Az (Kd.R (Kd.int .i64) 3 wr w0.heap.size (fun k => W.heap.size ≤ k) s6 xs) ∧ Az (RdAt w0 h A b c q wr) ∧ Az (KeptR h W wr))
  case atStart => exact ⟨0, [], q0, Td_, Td_, rfl, ⟨rfl⟩, HT0, HR0, HR2, HK2⟩
  clear HR0 HR2 HK2 HT0; obtain ⟨i, xs, q, hi, hgg, rfl, HL, HT, HX, HW, HK⟩ := hrel; obtain ⟨A6, c6, hs6⟩ := Kd.R_slice HX.out; subst hs6
  by_cases hil : i < m
  ·have hilz : (i : Int) < (m : Int) := by omega
   have HQ := aM_ (ic_ w0 h A b c q wr HS.out HW.out)
   go_wp2_with fail
   refine HQ.out.mono ?_; intro e w3 hq
   cases hp : pNum b q with
   | none =>
    rw [hp] at hq; obtain ⟨⟨T, v, rfl⟩, hbl⟩ := hq
    exact ⟨rfl, Ur_⟩
   | some z =>
    obtain ⟨x, q1⟩ := z; rw [hp] at hq; obtain ⟨⟨v, rfl, rfl⟩, hr1, hk1⟩ := hq; have hv : Kd.M (Kd.int .i64) w3 w0.heap.size (fun k => wr.heap.size ≤ k) x [.int .i64 x] := rfl
    have HT1 : Az (ab_ (pNum b) m q0 = (ab_ (pNum b) (m - (i + 1)) q1).map fun y => (xs ++ [x] ++ y.1, y.2)) := ⟨by
     rw [HT.out, show m - i = (m - (i + 1)) + 1 from by omega, ab_, hp]; simp only [Option.bind_some, Option.map_map]
     congr 1
     funext y
     simp⟩
    have HX1 := aM_ (ue_ HX.out hk1 (fun k hk => by have := HG.out; omega)); have HW1 := aM_ hr1; have HK1 := aM_ (HK.out.trans hk1); have HSZ := aM_ (HK.out.size HW.out); have HSY := aM_ (hk1.size hr1); have hlx : xs.length ≤ 125000000000 := by rw [HL.out]; omega
    have HLX := aM_ hlx; have HOW : Az (∀ k, (Value.slice A6 xs.length c6).ownBlock = some k → k < wr.heap.size) := ⟨fun k hk => Kd.R_own_lt HX.out hk⟩; clear hp hr1 hk1 HQ hlx HT HX HK
    go_wp2_with (at_builtin; go_loud (refine Kd.R_append (Kd.int .i64) (w0 := w0) w0.heap.size rfl (.tmp 35) (.tmp 38) 35 3 (.int .i64 0) 8 rfl Tryz.underlying35 Ti_ rfl (by show 0 < 1; decide) Tm_ (.slice A6 xs.length c6) xs x [.int .i64 x] (fun k => W.heap.size ≤ k) (fun k => wr.heap.size ≤ k) rfl rfl hv Uc_ Us_ HX1.out Ws_ Wl_ Wn_ ?_); intro v4 w4 ho hb hg hat)
    have HR5 : Az (RdAt w0 h A b c q1 w4) := ⟨⟨fb_ HW1.out.blk hg (fun e => by have := HX1.out.1 _ e.symm; have := HG.out; omega), hb, HW1.out.ge, HW1.out.pos⟩⟩; have HK5 : Az (KeptR h W w4) := ⟨fun k o hko hne => fb_ (HK1.out k o hko hne) hg (fun e => by have := HX1.out.1 _ e.symm; have := bb_ hko; omega)⟩; have HX5 := aM_ ho; have HL5 : Az ((xs ++ [x]).length = i + 1) := ⟨Wj_⟩; clear ho hb hg hat hv HX1 HW1 HK1 HL HOW HSZ HSY HLX; generalize xs ++ [x] = ys at *; obtain ⟨A7, c7, hs7⟩ := Kd.R_slice HX5.out; subst hs7
    go_wp2
    go_roundg (m - (i + 1))
    case measure => omega
    case rel => exact ⟨i + 1, ys, q1, Td_, Td_, Va_, HL5, HT1, HX5, HR5, HK5⟩
  have he : i = m := by omega
  have hilz : decide ((i : Int) < (m : Int)) = false := by simp; omega
  have HPQ : Az (hb_ (pNum b) b p = some (xs, q)) := ⟨Vr_⟩; have HCL := aM_ (cloneI A6 c6 xs wr W.heap.size w0.heap.size HX.out (HK.out.size HW.out) HW.out.below.size Xg_); clear he HPP HT HL
  go_wp2_with fail
  refine HCL.out.mono ?_; rintro e w5 ⟨v5, rfl, hR5, hB5⟩; have HO := aM_ hR5; have HR6 : Az (RdAt w0 h A b c q w5) := ⟨⟨la_ HW.out.blk hB5, da_ HW.out.below hB5, HW.out.ge, HW.out.pos⟩⟩; have HK6 : Az (KeptR h W w5) := ⟨HK.out.trans (KeptR.below hB5)⟩; obtain ⟨A7, c7, hs7⟩ := Kd.R_slice hR5; subst hs7; clear hR5 hB5 HCL
  go_wp2
  go_ret
  rw [HPQ.out]; exact ⟨⟨_, rfl, HO.out⟩, HR6.out, HK6.out⟩
theorem manyE_rd (w0 : World) (h : Nat) (A : Option Addr) (b : List Int) (c p : Nat) (W : World) (hs : Src w0 A b c) (hr : RdAt w0 h A b c p W) :
  Calls Tryz.prog 85 #[.pointer (some ⟨h, 0, none⟩), .func (.func 86) #[.pointer (some ⟨h, 0, none⟩)] #[]] W fun e W' => Rd w0 h A b c W (VR k46 46 w0 W) e W' (hb_ (pEnt b) b p) := by
 have HS := aM_ hs
 have hlb := hs.len
 have HG : Az (h < W.heap.size) := ⟨bb_ hr.blk⟩
 have HP0 : Az (hb_ (pEnt b) b p = (pNum b p).bind fun z => if z.1 < 0 ∨ ((b.length : Int) - z.2) / 8 < z.1 then none else ab_ (pEnt b) z.1.toNat z.2) := ⟨rfl⟩
 have HQ0 := aM_ (ic_ w0 h A b c p W hs hr)
 clear hs hr
 go_enter Tryz.func85, Tryz.ntmps85
 go_wp2_with fail
 refine HQ0.out.mono ?_
 intro e w1 hq
 cases hp : pNum b p with
 | none =>
  rw [hp] at hq; obtain ⟨⟨T, v, rfl⟩, hbl⟩ := hq
  exact ⟨rfl, Ux_⟩
 | some z =>
  obtain ⟨n, q0⟩ := z; rw [hp] at hq; obtain ⟨⟨v, rfl, rfl⟩, hr1, hk1⟩ := hq; have HP1 : Az (hb_ (pEnt b) b p = if n < 0 ∨ ((b.length : Int) - q0) / 8 < n then none else ab_ (pEnt b) n.toNat q0) := ⟨We_⟩; have hpos := hr1.pos; have c0 : w1.cell? ⟨h, 0, none⟩ = some (.slice A b.length c) := ba_ hr1.blk 0; have c1 : w1.cell? ⟨h, 1, none⟩ = some (.int .i64 (q0 : Int)) := ba_ hr1.blk 1; have HR1 := aM_ hr1; have HK1 := aM_ hk1; have hw1 : wrap64 ((b.length : Int) - (q0 : Int)) = (b.length : Int) - (q0 : Int) := by rw [wrap64]; omega
  have hw2 : wrap64 (((b.length : Int) - (q0 : Int)) / 8) = ((b.length : Int) - (q0 : Int)) / 8 := by rw [wrap64]; omega
  have hdd : ((b.length : Int) - (q0 : Int)) / 8 ≤ 125000000000 := by omega
  clear hr1 hk1 hp HQ0 HP0
  by_cases hbad : n < 0 ∨ ((b.length : Int) - (q0 : Int)) / 8 < n
  ·have HPP : Az (hb_ (pEnt b) b p = none) := ⟨Wz_⟩
   by_cases hn0 : n < 0
   ·have e1 : decide (n < 0) = true := decide_eq_true hn0
    clear hbad hn0
    go_wp2
    go_quiet (fail)
    go_wp2
    refine ⟨rfl, ?_⟩; rw [HPP.out]; exact ⟨⟨_, _, rfl⟩, da_ HR1.out.below (ca_ (Below.refl _ _) _)⟩
   have e1 : decide (n < 0) = false := decide_eq_false hn0; have e2 : decide (((b.length : Int) - (q0 : Int)) / 8 < n) = true := decide_eq_true Td_; clear hbad hn0
   go_wp2
   go_quiet (fail)
   go_wp2
   refine ⟨rfl, ?_⟩; rw [HPP.out]; exact ⟨⟨_, _, rfl⟩, da_ HR1.out.below (ca_ (Below.refl _ _) _)⟩
  obtain ⟨m, rfl⟩ : ∃ m : Nat, n = (m : Int) := ⟨n.toNat, Td_⟩; have hm : m ≤ 125000000000 := by omega
  have e1 : decide ((m : Int) < 0) = false := decide_eq_false Td_; have e2 : decide (((b.length : Int) - (q0 : Int)) / 8 < (m : Int)) = false := decide_eq_false Td_; have HPP : Az (hb_ (pEnt b) b p = ab_ (pEnt b) m q0) := ⟨Wa_⟩; clear hbad HP1
  go_wp2
  go_quiet (fail)
  have HR2 : Az (RdAt w0 h A b c q0 (w1.drewN nq)) := ⟨⟨HR1.out.blk, ca_ HR1.out.below _, HR1.out.ge, HR1.out.pos⟩⟩; have HK2 : Az (KeptR h W (w1.drewN nq)) := ⟨HK1.out.trans (KeptR.below (ca_ (Below.refl _ _) _))⟩; have HR0 : Az (Kd.R k46 46 (w1.drewN nq) w0.heap.size (fun k => W.heap.size ≤ k) (.slice none 0 0) []) := ⟨Kd.R_nil _ _ _ _ _⟩; have HT0 : Az (ab_ (pEnt b) m q0 = (ab_ (pEnt b) (m - 0) q0).map fun y => ([] ++ y.1, y.2)) := ⟨Tt_⟩; clear HR1 HK1 c0 c1; generalize w1.drewN nq = w2 at *
  go_wp2
  go_loopg [6, 33] m (fun gg s6 s33 wr => ∃ (i : Nat) (xs : List S46) (q : Nat), i ≤ m ∧ m - i ≤ gg ∧ s33 = .int .i64 i ∧ Az (xs.length = i) ∧ Az (ab_ (pEnt b) m q0 = (ab_ (pEnt b) (m - i) q).map fun y => (xs ++ y.1, y.2)) ∧ Az (Kd.R k46 46 wr w0.heap.size (fun k => W.heap.size ≤ k) s6 xs) ∧ Az (RdAt w0 h A b c q wr) ∧ Az (KeptR h W wr))
  case atStart => exact ⟨0, [], q0, Td_, Td_, rfl, ⟨rfl⟩, HT0, HR0, HR2, HK2⟩
  clear HR0 HR2 HK2 HT0; obtain ⟨i, xs, q, hi, hgg, rfl, HL, HT, HX, HW, HK⟩ := hrel; obtain ⟨A6, c6, hs6⟩ := Kd.R_slice HX.out; subst hs6
  by_cases hil : i < m
  ·have hilz : (i : Int) < (m : Int) := by omega
   have HQ := aM_ (entry_rd w0 h A b c q wr HS.out HW.out)
   go_wp2_with fail
   refine HQ.out.mono ?_; intro e w3 hq
   cases hp : pEnt b q with
   | none =>
    rw [hp] at hq; obtain ⟨⟨T, v, rfl⟩, hbl⟩ := hq
    exact ⟨rfl, Ur_⟩
   | some z =>
    obtain ⟨x, q1⟩ := z; rw [hp] at hq; obtain ⟨⟨v, rfl, cs, rfl, hm⟩, hr1, hk1⟩ := hq; obtain rfl := iv_ hm; have hv := hm; clear hm
    have HT1 : Az (ab_ (pEnt b) m q0 = (ab_ (pEnt b) (m - (i + 1)) q1).map fun y => (xs ++ [x] ++ y.1, y.2)) := ⟨by
     rw [HT.out, show m - i = (m - (i + 1)) + 1 from by omega, ab_, hp]; simp only [Option.bind_some, Option.map_map]
     congr 1
     funext y
     simp⟩
    have HX1 := aM_ (ue_ HX.out hk1 (fun k hk => by have := HG.out; omega)); have HW1 := aM_ hr1; have HK1 := aM_ (HK.out.trans hk1); have HSZ := aM_ (HK.out.size HW.out); have HSY := aM_ (hk1.size hr1); have hlx : xs.length ≤ 125000000000 := by rw [HL.out]; omega
    have HLX := aM_ hlx; have HOW : Az (∀ k, (Value.slice A6 xs.length c6).ownBlock = some k → k < wr.heap.size) := ⟨fun k hk => Kd.R_own_lt HX.out hk⟩; clear hp hr1 hk1 HQ hlx HT HX HK
    go_wp2_with (at_builtin; go_loud (refine Kd.R_append k46 (w0 := w0) w0.heap.size rfl (.tmp 35) (.tmp 38) 40 46 (.agg #[.string ⟨#[]⟩, .int .i64 0, .int .i64 0]) 32 rfl Tryz.underlying40 Ti_ rfl Xf_ Tm_ (.slice A6 xs.length c6) xs x [.string x.f0, .int .i64 x.f1, .int .i64 x.f2] (fun k => W.heap.size ≤ k) (fun k => wr.heap.size ≤ k) rfl rfl hv Uc_ Us_ HX1.out Ws_ Wl_ Wn_ ?_); intro v4 w4 ho hb hg hat)
    have HR5 : Az (RdAt w0 h A b c q1 w4) := ⟨⟨fb_ HW1.out.blk hg (fun e => by have := HX1.out.1 _ e.symm; have := HG.out; omega), hb, HW1.out.ge, HW1.out.pos⟩⟩; have HK5 : Az (KeptR h W w4) := ⟨fun k o hko hne => fb_ (HK1.out k o hko hne) hg (fun e => by have := HX1.out.1 _ e.symm; have := bb_ hko; omega)⟩; have HX5 := aM_ ho; have HL5 : Az ((xs ++ [x]).length = i + 1) := ⟨Wj_⟩; clear ho hb hg hat hv HX1 HW1 HK1 HL HOW HSZ HSY HLX; generalize xs ++ [x] = ys at *; obtain ⟨A7, c7, hs7⟩ := Kd.R_slice HX5.out; subst hs7
    go_wp2
    go_roundg (m - (i + 1))
    case measure => omega
    case rel => exact ⟨i + 1, ys, q1, Td_, Td_, Va_, HL5, HT1, HX5, HR5, HK5⟩
  have he : i = m := by omega
  have hilz : decide ((i : Int) < (m : Int)) = false := by simp; omega
  have HPQ : Az (hb_ (pEnt b) b p = some (xs, q)) := ⟨Vr_⟩; have HCL := aM_ (cloneE A6 c6 xs wr W.heap.size w0.heap.size HX.out (HK.out.size HW.out) HW.out.below.size Xg_); clear he HPP HT HL
  go_wp2_with fail
  refine HCL.out.mono ?_; rintro e w5 ⟨v5, rfl, hR5, hB5⟩; have HO := aM_ hR5; have HR6 : Az (RdAt w0 h A b c q w5) := ⟨⟨la_ HW.out.blk hB5, da_ HW.out.below hB5, HW.out.ge, HW.out.pos⟩⟩; have HK6 : Az (KeptR h W w5) := ⟨HK.out.trans (KeptR.below hB5)⟩; obtain ⟨A7, c7, hs7⟩ := Kd.R_slice hR5; subst hs7; clear hR5 hB5 HCL
  go_wp2
  go_ret
  rw [HPQ.out]; exact ⟨⟨_, rfl, HO.out⟩, HR6.out, HK6.out⟩
theorem manyP_rd (w0 : World) (h : Nat) (A : Option Addr) (b : List Int) (c p : Nat) (W : World) (hs : Src w0 A b c) (hr : RdAt w0 h A b c p W) :
  Calls Tryz.prog 128 #[.pointer (some ⟨h, 0, none⟩), .func (.func 129) #[.pointer (some ⟨h, 0, none⟩)] #[]] W fun e W' => Rd w0 h A b c W (VR k48 48 w0 W) e W' (hb_ (zd_ b) b p) := by
 have HS := aM_ hs
 have hlb := hs.len
 have HG : Az (h < W.heap.size) := ⟨bb_ hr.blk⟩
 have HP0 : Az (hb_ (zd_ b) b p = (pNum b p).bind fun z => if z.1 < 0 ∨ ((b.length : Int) - z.2) / 8 < z.1 then none else ab_ (zd_ b) z.1.toNat z.2) := ⟨rfl⟩
 have HQ0 := aM_ (ic_ w0 h A b c p W hs hr)
 clear hs hr
 go_enter Tryz.func128, Tryz.ntmps128
 go_wp2_with fail
 refine HQ0.out.mono ?_
 intro e w1 hq
 cases hp : pNum b p with
 | none =>
  rw [hp] at hq; obtain ⟨⟨T, v, rfl⟩, hbl⟩ := hq
  exact ⟨rfl, Ux_⟩
 | some z =>
  obtain ⟨n, q0⟩ := z; rw [hp] at hq; obtain ⟨⟨v, rfl, rfl⟩, hr1, hk1⟩ := hq; have HP1 : Az (hb_ (zd_ b) b p = if n < 0 ∨ ((b.length : Int) - q0) / 8 < n then none else ab_ (zd_ b) n.toNat q0) := ⟨We_⟩; have hpos := hr1.pos; have c0 : w1.cell? ⟨h, 0, none⟩ = some (.slice A b.length c) := ba_ hr1.blk 0; have c1 : w1.cell? ⟨h, 1, none⟩ = some (.int .i64 (q0 : Int)) := ba_ hr1.blk 1; have HR1 := aM_ hr1; have HK1 := aM_ hk1; have hw1 : wrap64 ((b.length : Int) - (q0 : Int)) = (b.length : Int) - (q0 : Int) := by rw [wrap64]; omega
  have hw2 : wrap64 (((b.length : Int) - (q0 : Int)) / 8) = ((b.length : Int) - (q0 : Int)) / 8 := by rw [wrap64]; omega
  have hdd : ((b.length : Int) - (q0 : Int)) / 8 ≤ 125000000000 := by omega
  clear hr1 hk1 hp HQ0 HP0
  by_cases hbad : n < 0 ∨ ((b.length : Int) - (q0 : Int)) / 8 < n
  ·have HPP : Az (hb_ (zd_ b) b p = none) := ⟨Wz_⟩
   by_cases hn0 : n < 0
   ·have e1 : decide (n < 0) = true := decide_eq_true hn0
    clear hbad hn0
    go_wp2
    go_quiet (fail)
    go_wp2
    refine ⟨rfl, ?_⟩; rw [HPP.out]; exact ⟨⟨_, _, rfl⟩, da_ HR1.out.below (ca_ (Below.refl _ _) _)⟩
   have e1 : decide (n < 0) = false := decide_eq_false hn0; have e2 : decide (((b.length : Int) - (q0 : Int)) / 8 < n) = true := decide_eq_true Td_; clear hbad hn0
   go_wp2
   go_quiet (fail)
   go_wp2
   refine ⟨rfl, ?_⟩; rw [HPP.out]; exact ⟨⟨_, _, rfl⟩, da_ HR1.out.below (ca_ (Below.refl _ _) _)⟩
  obtain ⟨m, rfl⟩ : ∃ m : Nat, n = (m : Int) := ⟨n.toNat, Td_⟩; have hm : m ≤ 125000000000 := by omega
  have e1 : decide ((m : Int) < 0) = false := decide_eq_false Td_; have e2 : decide (((b.length : Int) - (q0 : Int)) / 8 < (m : Int)) = false := decide_eq_false Td_; have HPP : Az (hb_ (zd_ b) b p = ab_ (zd_ b) m q0) := ⟨Wa_⟩; clear hbad HP1
  go_wp2
  go_quiet (fail)
  have HR2 : Az (RdAt w0 h A b c q0 (w1.drewN nq)) := ⟨⟨HR1.out.blk, ca_ HR1.out.below _, HR1.out.ge, HR1.out.pos⟩⟩; have HK2 : Az (KeptR h W (w1.drewN nq)) := ⟨HK1.out.trans (KeptR.below (ca_ (Below.refl _ _) _))⟩; have HR0 : Az (Kd.R k48 48 (w1.drewN nq) w0.heap.size (fun k => W.heap.size ≤ k) (.slice none 0 0) []) := ⟨Kd.R_nil _ _ _ _ _⟩; have HT0 : Az (ab_ (zd_ b) m q0 = (ab_ (zd_ b) (m - 0) q0).map fun y => ([] ++ y.1, y.2)) := ⟨Tt_⟩; clear HR1 HK1 c0 c1; generalize w1.drewN nq = w2 at *
  go_wp2
  go_loopg [6, 33] m (fun gg s6 s33 wr => ∃ (i : Nat) (xs : List S48) (q : Nat), i ≤ m ∧ m - i ≤ gg ∧ s33 = .int .i64 i ∧ Az (xs.length = i) ∧ Az (ab_ (zd_ b) m q0 = (ab_ (zd_ b) (m - i) q).map fun y => (xs ++ y.1, y.2)) ∧ Az (Kd.R k48 48 wr w0.heap.size (fun k => W.heap.size ≤ k) s6 xs) ∧ Az (RdAt w0 h A b c q wr) ∧ Az (KeptR h W wr))
  case atStart => exact ⟨0, [], q0, Td_, Td_, rfl, ⟨rfl⟩, HT0, HR0, HR2, HK2⟩
  clear HR0 HR2 HK2 HT0; obtain ⟨i, xs, q, hi, hgg, rfl, HL, HT, HX, HW, HK⟩ := hrel; obtain ⟨A6, c6, hs6⟩ := Kd.R_slice HX.out; subst hs6
  by_cases hil : i < m
  ·have hilz : (i : Int) < (m : Int) := by omega
   have HQ := aM_ (part_rd w0 h A b c q wr HS.out HW.out)
   go_wp2_with fail
   refine HQ.out.mono ?_; intro e w3 hq
   cases hp : zd_ b q with
   | none =>
    rw [hp] at hq; obtain ⟨⟨T, v, rfl⟩, hbl⟩ := hq
    exact ⟨rfl, Ur_⟩
   | some z =>
    obtain ⟨x, q1⟩ := z; rw [hp] at hq; obtain ⟨⟨v, rfl, cs, rfl, hm⟩, hr1, hk1⟩ := hq; obtain rfl := hv_ hm; have hv := hm; clear hm
    have HT1 : Az (ab_ (zd_ b) m q0 = (ab_ (zd_ b) (m - (i + 1)) q1).map fun y => (xs ++ [x] ++ y.1, y.2)) := ⟨by
     rw [HT.out, show m - i = (m - (i + 1)) + 1 from by omega, ab_, hp]; simp only [Option.bind_some, Option.map_map]
     congr 1
     funext y
     simp⟩
    have HX1 := aM_ (ue_ HX.out hk1 (fun k hk => by have := HG.out; omega)); have HW1 := aM_ hr1; have HK1 := aM_ (HK.out.trans hk1); have HSZ := aM_ (HK.out.size HW.out); have HSY := aM_ (hk1.size hr1); have hlx : xs.length ≤ 125000000000 := by rw [HL.out]; omega
    have HLX := aM_ hlx; have HOW : Az (∀ k, (Value.slice A6 xs.length c6).ownBlock = some k → k < wr.heap.size) := ⟨fun k hk => Kd.R_own_lt HX.out hk⟩; clear hp hr1 hk1 HQ hlx HT HX HK
    go_wp2_with (at_builtin; go_loud (refine Kd.R_append k48 (w0 := w0) w0.heap.size rfl (.tmp 35) (.tmp 38) 50 48 (.agg #[.int .i64 0, .string ⟨#[]⟩, .int .i64 0, .int .i64 0, .int .i64 0]) 48 rfl Tryz.underlying50 Ti_ rfl Wh_ Tm_ (.slice A6 xs.length c6) xs x [.int .i64 x.f0, .string x.f1, .int .i64 x.f2, .int .i64 x.f3, .int .i64 x.f4] (fun k => W.heap.size ≤ k) (fun k => wr.heap.size ≤ k) rfl rfl hv Uc_ Us_ HX1.out Ws_ Wl_ Wn_ ?_); intro v4 w4 ho hb hg hat)
    have HR5 : Az (RdAt w0 h A b c q1 w4) := ⟨⟨fb_ HW1.out.blk hg (fun e => by have := HX1.out.1 _ e.symm; have := HG.out; omega), hb, HW1.out.ge, HW1.out.pos⟩⟩; have HK5 : Az (KeptR h W w4) := ⟨fun k o hko hne => fb_ (HK1.out k o hko hne) hg (fun e => by have := HX1.out.1 _ e.symm; have := bb_ hko; omega)⟩; have HX5 := aM_ ho; have HL5 : Az ((xs ++ [x]).length = i + 1) := ⟨Wj_⟩; clear ho hb hg hat hv HX1 HW1 HK1 HL HOW HSZ HSY HLX; generalize xs ++ [x] = ys at *; obtain ⟨A7, c7, hs7⟩ := Kd.R_slice HX5.out; subst hs7
    go_wp2
    go_roundg (m - (i + 1))
    case measure => omega
    case rel => exact ⟨i + 1, ys, q1, Td_, Td_, Va_, HL5, HT1, HX5, HR5, HK5⟩
  have he : i = m := by omega
  have hilz : decide ((i : Int) < (m : Int)) = false := by simp; omega
  have HPQ : Az (hb_ (zd_ b) b p = some (xs, q)) := ⟨Vr_⟩; have HCL := aM_ (cloneP A6 c6 xs wr W.heap.size w0.heap.size HX.out (HK.out.size HW.out) HW.out.below.size Xg_); clear he HPP HT HL
  go_wp2_with fail
  refine HCL.out.mono ?_; rintro e w5 ⟨v5, rfl, hR5, hB5⟩; have HO := aM_ hR5; have HR6 : Az (RdAt w0 h A b c q w5) := ⟨⟨la_ HW.out.blk hB5, da_ HW.out.below hB5, HW.out.ge, HW.out.pos⟩⟩; have HK6 : Az (KeptR h W w5) := ⟨HK.out.trans (KeptR.below hB5)⟩; obtain ⟨A7, c7, hs7⟩ := Kd.R_slice hR5; subst hs7; clear hR5 hB5 HCL
  go_wp2
  go_ret
  rw [HPQ.out]; exact ⟨⟨_, rfl, HO.out⟩, HR6.out, HK6.out⟩
def od_ (b : List Int) (p : Nat) : Option (S56 × Nat) := (pNum b p).bind fun z0 => (hb_ (pNum b) b z0.2).bind fun z1 => (pNum b z1.2).bind fun z2 => (hb_ (pNum b) b z2.2).bind fun z3 => (pNum b z3.2).bind fun z4 => some (⟨z0.1, z1.1, ⟨z2.1, z3.1⟩, z4.1⟩, z4.2)
theorem rule_rd (w0 : World) (h : Nat) (A : Option Addr) (b : List Int) (c p : Nat) (W : World) (hs : Src w0 A b c) (hr : RdAt w0 h A b c p W) :
  Calls Tryz.prog 88 #[.pointer (some ⟨h, 0, none⟩)] W fun e W' => Rd w0 h A b c W (VM k56 w0 W) e W' (od_ b p) := by
 have HS := aM_ hs
 have HG : Az (h < W.heap.size) := ⟨bb_ hr.blk⟩
 have hmf : ∀ (fn : Fn) (first cap : Array Value) (w : World), (Instr.makeFunc fn first cap).run Tryz.prog w = .ok (.func fn first cap) w := fun _ _ _ _ => rfl
 have HZ0 : Az (W.heap.size < (W.alloc (.cells #[.int .i64 0, .slice none 0 0, .int .i64 0, .slice none 0 0, .int .i64 0] 56)).heap.size) := ⟨Tt_⟩
 have HR0 : Az (RdAt w0 h A b c p (W.alloc (.cells #[.int .i64 0, .slice none 0 0, .int .i64 0, .slice none 0 0, .int .i64 0] 56))) := ⟨⟨la_ hr.blk (aa_ (Below.refl _ _) _), da_ hr.below (aa_ (Below.refl _ _) _), hr.ge, hr.pos⟩⟩
 have HB0 : Az ((W.alloc (.cells #[.int .i64 0, .slice none 0 0, .int .i64 0, .slice none 0 0, .int .i64 0] 56)).heap[W.heap.size]? = some (.cells #[.int .i64 0, .slice none 0 0, .int .i64 0, .slice none 0 0, .int .i64 0] 56 (0, 0))) := ⟨oa_ W _⟩
 have HK0 : Az (KeptR h W (W.alloc (.cells #[.int .i64 0, .slice none 0 0, .int .i64 0, .slice none 0 0, .int .i64 0] 56))) := ⟨KeptR.below (aa_ (Below.refl _ _) _)⟩
 have HP0 : Az (od_ b p = (pNum b p).bind fun z0 => (hb_ (pNum b) b z0.2).bind fun z1 => (pNum b z1.2).bind fun z2 => (hb_ (pNum b) b z2.2).bind fun z3 => (pNum b z3.2).bind fun z4 => some (⟨z0.1, z1.1, ⟨z2.1, z3.1⟩, z4.1⟩, z4.2)) := ⟨rfl⟩
 have HQ0 := aM_ (ic_ w0 h A b c p _ HS.out HR0.out)
 clear hs hr
 go_enter Tryz.func88, Tryz.ntmps88
 go_wp2_with fail
 refine HQ0.out.mono ?_
 intro e w1 hq
 cases hp : pNum b p with
 | none =>
  rw [hp] at hq; obtain ⟨⟨T, v, rfl⟩, hbl⟩ := hq
  exact ⟨rfl, Ux_⟩
 | some z =>
  obtain ⟨x0, q0⟩ := z; rw [hp] at hq; obtain ⟨⟨v, rfl, rfl⟩, hr1, hk1⟩ := hq; have HP1 : Az (od_ b p = (hb_ (pNum b) b q0).bind fun z1 => (pNum b z1.2).bind fun z2 => (hb_ (pNum b) b z2.2).bind fun z3 => (pNum b z3.2).bind fun z4 => some (⟨x0, z1.1, ⟨z2.1, z3.1⟩, z4.1⟩, z4.2)) := ⟨We_⟩; have HR1 := aM_ hr1; have HK1 := aM_ (HK0.out.trans hk1); have HZ1 := aM_ (Nat.lt_of_lt_of_le HZ0.out (hk1.size hr1)); have HB1 := aM_ (hk1 _ _ HB0.out (Nat.ne_of_gt HG.out)); have HQ1 := aM_ (uq_ w0 h A b c q0 w1 HS.out HR1.out); clear hr1 hk1 hp HQ0 HR0 HB0 HK0 HP0 HZ0
  go_wp2_with fail
  refine HQ1.out.mono ?_; intro e w2 hq
  cases hp : hb_ (pNum b) b q0 with
  | none =>
   rw [hp] at hq; obtain ⟨⟨T, v, rfl⟩, hbl⟩ := hq
   exact ⟨rfl, Wk_⟩
  | some z =>
   obtain ⟨x1, q1⟩ := z; rw [hp] at hq; obtain ⟨⟨v, rfl, hv1⟩, hr1, hk1⟩ := hq; obtain ⟨R1, k1, hs1⟩ := Kd.R_slice hv1; subst hs1; have HP2 : Az (od_ b p = (pNum b q1).bind fun z2 => (hb_ (pNum b) b z2.2).bind fun z3 => (pNum b z3.2).bind fun z4 => some (⟨x0, x1, ⟨z2.1, z3.1⟩, z4.1⟩, z4.2)) := ⟨Xi_⟩; have HR2 := aM_ hr1; have HK2 := aM_ (HK1.out.trans hk1); have HZ2 := aM_ (Nat.lt_of_lt_of_le HZ1.out (hk1.size hr1)); have HB2 := aM_ (hk1 _ _ HB1.out (Nat.ne_of_gt HG.out)); have HV1_2 := aM_ (Kd.R_mono hv1 (ok' := fun k => W.heap.size < k) (fun k hk => Nat.lt_of_lt_of_le HZ1.out hk)); clear hv1; have HQ2 := aM_ (ic_ w0 h A b c q1 w2 HS.out HR2.out); clear hr1 hk1 hp HQ1 HR1 HB1 HK1 HP1 HZ1
   go_wp2_with fail
   refine HQ2.out.mono ?_; intro e w3 hq
   cases hp : pNum b q1 with
   | none =>
    rw [hp] at hq; obtain ⟨⟨T, v, rfl⟩, hbl⟩ := hq
    exact ⟨rfl, Wt_⟩
   | some z =>
    obtain ⟨x2, q2⟩ := z; rw [hp] at hq; obtain ⟨⟨v, rfl, rfl⟩, hr1, hk1⟩ := hq; have HP3 : Az (od_ b p = (hb_ (pNum b) b q2).bind fun z3 => (pNum b z3.2).bind fun z4 => some (⟨x0, x1, ⟨x2, z3.1⟩, z4.1⟩, z4.2)) := ⟨by rw [HP2.out, hp]; rfl⟩; have HR3 := aM_ hr1; have HK3 := aM_ (HK2.out.trans hk1); have HZ3 := aM_ (Nat.lt_of_lt_of_le HZ2.out (hk1.size hr1)); have HB3 := aM_ (hk1 _ _ HB2.out (Nat.ne_of_gt HG.out)); have HV1_3 := aM_ (ue_ HV1_2.out hk1 (fun k hk => by have := HG.out; omega)); clear HV1_2; have HQ3 := aM_ (uq_ w0 h A b c q2 w3 HS.out HR3.out); clear hr1 hk1 hp HQ2 HR2 HB2 HK2 HP2 HZ2
    go_wp2_with fail
    refine HQ3.out.mono ?_; intro e w4 hq
    cases hp : hb_ (pNum b) b q2 with
    | none =>
     rw [hp] at hq; obtain ⟨⟨T, v, rfl⟩, hbl⟩ := hq
     exact ⟨rfl, by rw [HP3.out, hp]; exact ⟨⟨T, v, rfl⟩, hbl⟩⟩
    | some z =>
     obtain ⟨x3, q3⟩ := z; rw [hp] at hq; obtain ⟨⟨v, rfl, hv3⟩, hr1, hk1⟩ := hq; obtain ⟨R3, k3, hs1⟩ := Kd.R_slice hv3; subst hs1; have HP4 : Az (od_ b p = (pNum b q3).bind fun z4 => some (⟨x0, x1, ⟨x2, x3⟩, z4.1⟩, z4.2)) := ⟨by rw [HP3.out, hp]; rfl⟩; have HR4 := aM_ hr1; have HK4 := aM_ (HK3.out.trans hk1); have HZ4 := aM_ (Nat.lt_of_lt_of_le HZ3.out (hk1.size hr1)); have HB4 := aM_ (hk1 _ _ HB3.out (Nat.ne_of_gt HG.out)); have HV1_4 := aM_ (ue_ HV1_3.out hk1 (fun k hk => by have := HG.out; omega)); clear HV1_3; have HV3_4 := aM_ (Kd.R_mono hv3 (ok' := fun k => W.heap.size < k) (fun k hk => Nat.lt_of_lt_of_le HZ3.out hk)); clear hv3; have HQ4 := aM_ (ic_ w0 h A b c q3 w4 HS.out HR4.out); clear hr1 hk1 hp HQ3 HR3 HB3 HK3 HP3 HZ3
     go_wp2_with fail
     refine HQ4.out.mono ?_; intro e w5 hq
     cases hp : pNum b q3 with
     | none =>
      rw [hp] at hq; obtain ⟨⟨T, v, rfl⟩, hbl⟩ := hq
      exact ⟨rfl, by rw [HP4.out, hp]; exact ⟨⟨T, v, rfl⟩, hbl⟩⟩
     | some z =>
      obtain ⟨x4, q4⟩ := z; rw [hp] at hq; obtain ⟨⟨v, rfl, rfl⟩, hr1, hk1⟩ := hq; have HP5 : Az (od_ b p = some (⟨x0, x1, ⟨x2, x3⟩, x4⟩, q4)) := ⟨by rw [HP4.out, hp]; rfl⟩; have HR5 := aM_ hr1; have HK5 := aM_ (HK4.out.trans hk1); have HZ5 := aM_ (Nat.lt_of_lt_of_le HZ4.out (hk1.size hr1)); have HB5 := aM_ (hk1 _ _ HB4.out (Nat.ne_of_gt HG.out)); have HV1_5 := aM_ (ue_ HV1_4.out hk1 (fun k hk => by have := HG.out; omega)); clear HV1_4; have HV3_5 := aM_ (ue_ HV3_4.out hk1 (fun k hk => by have := HG.out; omega)); clear HV3_4; clear hr1 hk1 hp HQ4 HR4 HB4 HK4 HP4 HZ4; have hf_0 := ha_ HB5.out 0; have hc_0 := ba_ HB5.out 0; have hf_1 := ha_ HB5.out 1; have hc_1 := ba_ HB5.out 1; have hf_2 := ha_ HB5.out 2; have hc_2 := ba_ HB5.out 2; have hf_3 := ha_ HB5.out 3; have hc_3 := ba_ HB5.out 3; have hf_4 := ha_ HB5.out 4; have hc_4 := ba_ HB5.out 4; have hu1 := Tryz.underlying56; have hu2 := Tryz.underlying54
      go_wp2
      have hb1 : (((((w5.setCell ⟨W.heap.size, 0, none⟩ (.int .i64 x0)).setCell ⟨W.heap.size, 1, none⟩ (.slice R1 x1.length k1)).setCell ⟨W.heap.size, 2, none⟩ (.int .i64 x2)).setCell ⟨W.heap.size, 3, none⟩ (.slice R3 x3.length k3)).setCell ⟨W.heap.size, 4, none⟩ (.int .i64 x4)).heap[W.heap.size]? = some (.cells #[.int .i64 x0, .slice R1 x1.length k1, .int .i64 x2, .slice R3 x3.length k3, .int .i64 x4] 56 (0, 0)) := by simpa using (qa_ (qa_ (qa_ (qa_ (qa_ HB5.out 0 (.int .i64 x0)) 1 (.slice R1 x1.length k1)) 2 (.int .i64 x2)) 3 (.slice R3 x3.length k3)) 4 (.int .i64 x4))
      have hv1 := Kd.R_mono (Kd.R_far (Kd.R_far (Kd.R_far (Kd.R_far (Kd.R_far HV1_5.out (p := ⟨W.heap.size, 0, none⟩) (fun k hk => Nat.ne_of_gt hk) (.int .i64 x0)) (p := ⟨W.heap.size, 1, none⟩) (fun k hk => Nat.ne_of_gt hk) (.slice R1 x1.length k1)) (p := ⟨W.heap.size, 2, none⟩) (fun k hk => Nat.ne_of_gt hk) (.int .i64 x2)) (p := ⟨W.heap.size, 3, none⟩) (fun k hk => Nat.ne_of_gt hk) (.slice R3 x3.length k3)) (p := ⟨W.heap.size, 4, none⟩) (fun k hk => Nat.ne_of_gt hk) (.int .i64 x4)) (ok' := fun k => W.heap.size ≤ k) (fun k hk => Nat.le_of_lt hk); have hv3 := Kd.R_mono (Kd.R_far (Kd.R_far (Kd.R_far (Kd.R_far (Kd.R_far HV3_5.out (p := ⟨W.heap.size, 0, none⟩) (fun k hk => Nat.ne_of_gt hk) (.int .i64 x0)) (p := ⟨W.heap.size, 1, none⟩) (fun k hk => Nat.ne_of_gt hk) (.slice R1 x1.length k1)) (p := ⟨W.heap.size, 2, none⟩) (fun k hk => Nat.ne_of_gt hk) (.int .i64 x2)) (p := ⟨W.heap.size, 3, none⟩) (fun k hk => Nat.ne_of_gt hk) (.slice R3 x3.length k3)) (p := ⟨W.heap.size, 4, none⟩) (fun k hk => Nat.ne_of_gt hk) (.int .i64 x4)) (ok' := fun k => W.heap.size ≤ k) (fun k hk => Nat.le_of_lt hk); refine bodyPost_ret (results_cell_row rfl _ _ W.heap.size 56 #[.int .i64 x0, .slice R1 x1.length k1, .int .i64 x2, .slice R3 x3.length k3, .int .i64 x4] (0, 0) _ rfl hb1 Tryz.underlying56 rfl Ti_) rfl ?_; rw [HP5.out]; exact ⟨⟨_, rfl, _, rfl, ol_ _ _ _ (⟨x0, x1, ⟨x2, x3⟩, x4⟩ : S56) hv1 hv3⟩, (RdAt.box (RdAt.box (RdAt.box (RdAt.box (RdAt.box HR5.out HG.out _ _) HG.out _ _) HG.out _ _) HG.out _ _) HG.out _ _), (KeptR.box (KeptR.box (KeptR.box (KeptR.box (KeptR.box HK5.out (Nat.le_refl _) _ _) (Nat.le_refl _) _ _) (Nat.le_refl _) _ _) (Nat.le_refl _) _ _) (Nat.le_refl _) _ _)⟩
theorem manyR_rd (w0 : World) (h : Nat) (A : Option Addr) (b : List Int) (c p : Nat) (W : World) (hs : Src w0 A b c) (hr : RdAt w0 h A b c p W) :
  Calls Tryz.prog 87 #[.pointer (some ⟨h, 0, none⟩), .func (.func 88) #[.pointer (some ⟨h, 0, none⟩)] #[]] W fun e W' => Rd w0 h A b c W (VR k56 56 w0 W) e W' (hb_ (od_ b) b p) := by
 have HS := aM_ hs
 have hlb := hs.len
 have HG : Az (h < W.heap.size) := ⟨bb_ hr.blk⟩
 have HP0 : Az (hb_ (od_ b) b p = (pNum b p).bind fun z => if z.1 < 0 ∨ ((b.length : Int) - z.2) / 8 < z.1 then none else ab_ (od_ b) z.1.toNat z.2) := ⟨rfl⟩
 have HQ0 := aM_ (ic_ w0 h A b c p W hs hr)
 clear hs hr
 go_enter Tryz.func87, Tryz.ntmps87
 go_wp2_with fail
 refine HQ0.out.mono ?_
 intro e w1 hq
 cases hp : pNum b p with
 | none =>
  rw [hp] at hq; obtain ⟨⟨T, v, rfl⟩, hbl⟩ := hq
  exact ⟨rfl, Ux_⟩
 | some z =>
  obtain ⟨n, q0⟩ := z; rw [hp] at hq; obtain ⟨⟨v, rfl, rfl⟩, hr1, hk1⟩ := hq; have HP1 : Az (hb_ (od_ b) b p = if n < 0 ∨ ((b.length : Int) - q0) / 8 < n then none else ab_ (od_ b) n.toNat q0) := ⟨We_⟩; have hpos := hr1.pos; have c0 : w1.cell? ⟨h, 0, none⟩ = some (.slice A b.length c) := ba_ hr1.blk 0; have c1 : w1.cell? ⟨h, 1, none⟩ = some (.int .i64 (q0 : Int)) := ba_ hr1.blk 1; have HR1 := aM_ hr1; have HK1 := aM_ hk1; have hw1 : wrap64 ((b.length : Int) - (q0 : Int)) = (b.length : Int) - (q0 : Int) := by rw [wrap64]; omega
  have hw2 : wrap64 (((b.length : Int) - (q0 : Int)) / 8) = ((b.length : Int) - (q0 : Int)) / 8 := by rw [wrap64]; omega
  have hdd : ((b.length : Int) - (q0 : Int)) / 8 ≤ 125000000000 := by omega
  clear hr1 hk1 hp HQ0 HP0
  by_cases hbad : n < 0 ∨ ((b.length : Int) - (q0 : Int)) / 8 < n
  ·have HPP : Az (hb_ (od_ b) b p = none) := ⟨Wz_⟩
   by_cases hn0 : n < 0
   ·have e1 : decide (n < 0) = true := decide_eq_true hn0
    clear hbad hn0
    go_wp2
    go_quiet (fail)
    go_wp2
    refine ⟨rfl, ?_⟩; rw [HPP.out]; exact ⟨⟨_, _, rfl⟩, da_ HR1.out.below (ca_ (Below.refl _ _) _)⟩
   have e1 : decide (n < 0) = false := decide_eq_false hn0; have e2 : decide (((b.length : Int) - (q0 : Int)) / 8 < n) = true := decide_eq_true Td_; clear hbad hn0
   go_wp2
   go_quiet (fail)
   go_wp2
   refine ⟨rfl, ?_⟩; rw [HPP.out]; exact ⟨⟨_, _, rfl⟩, da_ HR1.out.below (ca_ (Below.refl _ _) _)⟩
  obtain ⟨m, rfl⟩ : ∃ m : Nat, n = (m : Int) := ⟨n.toNat, Td_⟩; have hm : m ≤ 125000000000 := by omega
  have e1 : decide ((m : Int) < 0) = false := decide_eq_false Td_; have e2 : decide (((b.length : Int) - (q0 : Int)) / 8 < (m : Int)) = false := decide_eq_false Td_; have HPP : Az (hb_ (od_ b) b p = ab_ (od_ b) m q0) := ⟨Wa_⟩; clear hbad HP1
  go_wp2
  go_quiet (fail)
  have HR2 : Az (RdAt w0 h A b c q0 (w1.drewN nq)) := ⟨⟨HR1.out.blk, ca_ HR1.out.below _, HR1.out.ge, HR1.out.pos⟩⟩; have HK2 : Az (KeptR h W (w1.drewN nq)) := ⟨HK1.out.trans (KeptR.below (ca_ (Below.refl _ _) _))⟩; have HR0 : Az (Kd.R k56 56 (w1.drewN nq) w0.heap.size (fun k => W.heap.size ≤ k) (.slice none 0 0) []) := ⟨Kd.R_nil _ _ _ _ _⟩; have HT0 : Az (ab_ (od_ b) m q0 = (ab_ (od_ b) (m - 0) q0).map fun y => ([] ++ y.1, y.2)) := ⟨Tt_⟩; clear HR1 HK1 c0 c1; generalize w1.drewN nq = w2 at *
  go_wp2
  go_loopg [6, 33] m (fun gg s6 s33 wr => ∃ (i : Nat) (xs : List S56) (q : Nat), i ≤ m ∧ m - i ≤ gg ∧ s33 = .int .i64 i ∧ Az (xs.length = i) ∧ Az (ab_ (od_ b) m q0 = (ab_ (od_ b) (m - i) q).map fun y => (xs ++ y.1, y.2)) ∧ Az (Kd.R k56 56 wr w0.heap.size (fun k => W.heap.size ≤ k) s6 xs) ∧ Az (RdAt w0 h A b c q wr) ∧ Az (KeptR h W wr))
  case atStart => exact ⟨0, [], q0, Td_, Td_, rfl, ⟨rfl⟩, HT0, HR0, HR2, HK2⟩
  clear HR0 HR2 HK2 HT0; obtain ⟨i, xs, q, hi, hgg, rfl, HL, HT, HX, HW, HK⟩ := hrel; obtain ⟨A6, c6, hs6⟩ := Kd.R_slice HX.out; subst hs6
  by_cases hil : i < m
  ·have hilz : (i : Int) < (m : Int) := by omega
   have HQ := aM_ (rule_rd w0 h A b c q wr HS.out HW.out)
   go_wp2_with fail
   refine HQ.out.mono ?_; intro e w3 hq
   cases hp : od_ b q with
   | none =>
    rw [hp] at hq; obtain ⟨⟨T, v, rfl⟩, hbl⟩ := hq
    exact ⟨rfl, Ur_⟩
   | some z =>
    obtain ⟨x, q1⟩ := z; rw [hp] at hq; obtain ⟨⟨v, rfl, cs, rfl, hm⟩, hr1, hk1⟩ := hq; obtain ⟨u1, u3, rfl, gu1, gu3⟩ := ev_ hm; have hv := hm; clear gu1; clear gu3; clear hm
    have HT1 : Az (ab_ (od_ b) m q0 = (ab_ (od_ b) (m - (i + 1)) q1).map fun y => (xs ++ [x] ++ y.1, y.2)) := ⟨by
     rw [HT.out, show m - i = (m - (i + 1)) + 1 from by omega, ab_, hp]; simp only [Option.bind_some, Option.map_map]
     congr 1
     funext y
     simp⟩
    have HX1 := aM_ (ue_ HX.out hk1 (fun k hk => by have := HG.out; omega)); have HW1 := aM_ hr1; have HK1 := aM_ (HK.out.trans hk1); have HSZ := aM_ (HK.out.size HW.out); have HSY := aM_ (hk1.size hr1); have hlx : xs.length ≤ 125000000000 := by rw [HL.out]; omega
    have HLX := aM_ hlx; have HOW : Az (∀ k, (Value.slice A6 xs.length c6).ownBlock = some k → k < wr.heap.size) := ⟨fun k hk => Kd.R_own_lt HX.out hk⟩; clear hp hr1 hk1 HQ hlx HT HX HK
    go_wp2_with (at_builtin; go_loud (refine Kd.R_append k56 (w0 := w0) w0.heap.size rfl (.tmp 35) (.tmp 38) 41 56 (.agg #[.int .i64 0, .slice none 0 0, .int .i64 0, .slice none 0 0, .int .i64 0]) 72 rfl Tryz.underlying41 Ti_ rfl Wh_ Tm_ (.slice A6 xs.length c6) xs x [.int .i64 x.f0, u1, .int .i64 x.f2.f0, u3, .int .i64 x.f3] (fun k => W.heap.size ≤ k) (fun k => wr.heap.size ≤ k) rfl rfl hv Uc_ Us_ HX1.out Ws_ Wl_ Wn_ ?_); intro v4 w4 ho hb hg hat)
    have HR5 : Az (RdAt w0 h A b c q1 w4) := ⟨⟨fb_ HW1.out.blk hg (fun e => by have := HX1.out.1 _ e.symm; have := HG.out; omega), hb, HW1.out.ge, HW1.out.pos⟩⟩; have HK5 : Az (KeptR h W w4) := ⟨fun k o hko hne => fb_ (HK1.out k o hko hne) hg (fun e => by have := HX1.out.1 _ e.symm; have := bb_ hko; omega)⟩; have HX5 := aM_ ho; have HL5 : Az ((xs ++ [x]).length = i + 1) := ⟨Wj_⟩; clear ho hb hg hat hv HX1 HW1 HK1 HL HOW HSZ HSY HLX; generalize xs ++ [x] = ys at *; obtain ⟨A7, c7, hs7⟩ := Kd.R_slice HX5.out; subst hs7
    go_wp2
    go_roundg (m - (i + 1))
    case measure => omega
    case rel => exact ⟨i + 1, ys, q1, Td_, Td_, Va_, HL5, HT1, HX5, HR5, HK5⟩
  have he : i = m := by omega
  have hilz : decide ((i : Int) < (m : Int)) = false := by simp; omega
  have HPQ : Az (hb_ (od_ b) b p = some (xs, q)) := ⟨Vr_⟩; have HCL := aM_ (cloneR A6 c6 xs wr W.heap.size w0.heap.size HX.out (HK.out.size HW.out) HW.out.below.size Xg_); clear he HPP HT HL
  go_wp2_with fail
  refine HCL.out.mono ?_; rintro e w5 ⟨v5, rfl, hR5, hB5⟩; have HO := aM_ hR5; have HR6 : Az (RdAt w0 h A b c q w5) := ⟨⟨la_ HW.out.blk hB5, da_ HW.out.below hB5, HW.out.ge, HW.out.pos⟩⟩; have HK6 : Az (KeptR h W w5) := ⟨HK.out.trans (KeptR.below hB5)⟩; obtain ⟨A7, c7, hs7⟩ := Kd.R_slice hR5; subst hs7; clear hR5 hB5 HCL
  go_wp2
  go_ret
  rw [HPQ.out]; exact ⟨⟨_, rfl, HO.out⟩, HR6.out, HK6.out⟩
def ad_ (b : List Int) (p : Nat) : Option (S52 × Nat) := (pNum b p).bind fun z0 => (hb_ (zd_ b) b z0.2).bind fun z1 => some (⟨z0.1, z1.1⟩, z1.2)
theorem style_rd (w0 : World) (h : Nat) (A : Option Addr) (b : List Int) (c p : Nat) (W : World) (hs : Src w0 A b c) (hr : RdAt w0 h A b c p W) :
  Calls Tryz.prog 90 #[.pointer (some ⟨h, 0, none⟩)] W fun e W' => Rd w0 h A b c W (VM k52 w0 W) e W' (ad_ b p) := by
 have HS := aM_ hs
 have HG : Az (h < W.heap.size) := ⟨bb_ hr.blk⟩
 have hmf : ∀ (fn : Fn) (first cap : Array Value) (w : World), (Instr.makeFunc fn first cap).run Tryz.prog w = .ok (.func fn first cap) w := fun _ _ _ _ => rfl
 have HZ0 : Az (W.heap.size < (W.alloc (.cells #[.int .i64 0, .slice none 0 0] 52)).heap.size) := ⟨Tt_⟩
 have HR0 : Az (RdAt w0 h A b c p (W.alloc (.cells #[.int .i64 0, .slice none 0 0] 52))) := ⟨⟨la_ hr.blk (aa_ (Below.refl _ _) _), da_ hr.below (aa_ (Below.refl _ _) _), hr.ge, hr.pos⟩⟩
 have HB0 : Az ((W.alloc (.cells #[.int .i64 0, .slice none 0 0] 52)).heap[W.heap.size]? = some (.cells #[.int .i64 0, .slice none 0 0] 52 (0, 0))) := ⟨oa_ W _⟩
 have HK0 : Az (KeptR h W (W.alloc (.cells #[.int .i64 0, .slice none 0 0] 52))) := ⟨KeptR.below (aa_ (Below.refl _ _) _)⟩
 have HP0 : Az (ad_ b p = (pNum b p).bind fun z0 => (hb_ (zd_ b) b z0.2).bind fun z1 => some (⟨z0.1, z1.1⟩, z1.2)) := ⟨rfl⟩
 have HQ0 := aM_ (ic_ w0 h A b c p _ HS.out HR0.out)
 clear hs hr
 go_enter Tryz.func90, Tryz.ntmps90
 go_wp2_with fail
 refine HQ0.out.mono ?_
 intro e w1 hq
 cases hp : pNum b p with
 | none =>
  rw [hp] at hq; obtain ⟨⟨T, v, rfl⟩, hbl⟩ := hq
  exact ⟨rfl, Ux_⟩
 | some z =>
  obtain ⟨x0, q0⟩ := z; rw [hp] at hq; obtain ⟨⟨v, rfl, rfl⟩, hr1, hk1⟩ := hq; have HP1 : Az (ad_ b p = (hb_ (zd_ b) b q0).bind fun z1 => some (⟨x0, z1.1⟩, z1.2)) := ⟨We_⟩; have HR1 := aM_ hr1; have HK1 := aM_ (HK0.out.trans hk1); have HZ1 := aM_ (Nat.lt_of_lt_of_le HZ0.out (hk1.size hr1)); have HB1 := aM_ (hk1 _ _ HB0.out (Nat.ne_of_gt HG.out)); have HQ1 := aM_ (manyP_rd w0 h A b c q0 w1 HS.out HR1.out); clear hr1 hk1 hp HQ0 HR0 HB0 HK0 HP0 HZ0
  go_wp2_with fail
  refine HQ1.out.mono ?_; intro e w2 hq
  cases hp : hb_ (zd_ b) b q0 with
  | none =>
   rw [hp] at hq; obtain ⟨⟨T, v, rfl⟩, hbl⟩ := hq
   exact ⟨rfl, Wk_⟩
  | some z =>
   obtain ⟨x1, q1⟩ := z; rw [hp] at hq; obtain ⟨⟨v, rfl, hv1⟩, hr1, hk1⟩ := hq; obtain ⟨R1, k1, hs1⟩ := Kd.R_slice hv1; subst hs1; have HP2 : Az (ad_ b p = some (⟨x0, x1⟩, q1)) := ⟨Xi_⟩; have HR2 := aM_ hr1; have HK2 := aM_ (HK1.out.trans hk1); have HZ2 := aM_ (Nat.lt_of_lt_of_le HZ1.out (hk1.size hr1)); have HB2 := aM_ (hk1 _ _ HB1.out (Nat.ne_of_gt HG.out)); have HV1_2 := aM_ (Kd.R_mono hv1 (ok' := fun k => W.heap.size < k) (fun k hk => Nat.lt_of_lt_of_le HZ1.out hk)); clear hv1; clear hr1 hk1 hp HQ1 HR1 HB1 HK1 HP1 HZ1; have hf_0 := ha_ HB2.out 0; have hc_0 := ba_ HB2.out 0; have hf_1 := ha_ HB2.out 1; have hc_1 := ba_ HB2.out 1; have hu1 := Tryz.underlying52
   go_wp2
   have hb1 : ((w2.setCell ⟨W.heap.size, 0, none⟩ (.int .i64 x0)).setCell ⟨W.heap.size, 1, none⟩ (.slice R1 x1.length k1)).heap[W.heap.size]? = some (.cells #[.int .i64 x0, .slice R1 x1.length k1] 52 (0, 0)) := by simpa using (qa_ (qa_ HB2.out 0 (.int .i64 x0)) 1 (.slice R1 x1.length k1))
   have hv1 := Kd.R_mono (Kd.R_far (Kd.R_far HV1_2.out (p := ⟨W.heap.size, 0, none⟩) (fun k hk => Nat.ne_of_gt hk) (.int .i64 x0)) (p := ⟨W.heap.size, 1, none⟩) (fun k hk => Nat.ne_of_gt hk) (.slice R1 x1.length k1)) (ok' := fun k => W.heap.size ≤ k) (fun k hk => Nat.le_of_lt hk); refine bodyPost_ret (results_cell_row rfl _ _ W.heap.size 52 #[.int .i64 x0, .slice R1 x1.length k1] (0, 0) _ rfl hb1 Tryz.underlying52 rfl Ti_) rfl ?_; rw [HP2.out]; exact ⟨⟨_, rfl, _, rfl, lp_ _ _ _ (⟨x0, x1⟩ : S52) hv1⟩, (RdAt.box (RdAt.box HR2.out HG.out _ _) HG.out _ _), (KeptR.box (KeptR.box HK2.out (Nat.le_refl _) _ _) (Nat.le_refl _) _ _)⟩
theorem manyS_rd (w0 : World) (h : Nat) (A : Option Addr) (b : List Int) (c p : Nat) (W : World) (hs : Src w0 A b c) (hr : RdAt w0 h A b c p W) :
  Calls Tryz.prog 89 #[.pointer (some ⟨h, 0, none⟩), .func (.func 90) #[.pointer (some ⟨h, 0, none⟩)] #[]] W fun e W' => Rd w0 h A b c W (VR k52 52 w0 W) e W' (hb_ (ad_ b) b p) := by
 have HS := aM_ hs
 have hlb := hs.len
 have HG : Az (h < W.heap.size) := ⟨bb_ hr.blk⟩
 have HP0 : Az (hb_ (ad_ b) b p = (pNum b p).bind fun z => if z.1 < 0 ∨ ((b.length : Int) - z.2) / 8 < z.1 then none else ab_ (ad_ b) z.1.toNat z.2) := ⟨rfl⟩
 have HQ0 := aM_ (ic_ w0 h A b c p W hs hr)
 clear hs hr
 go_enter Tryz.func89, Tryz.ntmps89
 go_wp2_with fail
 refine HQ0.out.mono ?_
 intro e w1 hq
 cases hp : pNum b p with
 | none =>
  rw [hp] at hq; obtain ⟨⟨T, v, rfl⟩, hbl⟩ := hq
  exact ⟨rfl, Ux_⟩
 | some z =>
  obtain ⟨n, q0⟩ := z; rw [hp] at hq; obtain ⟨⟨v, rfl, rfl⟩, hr1, hk1⟩ := hq; have HP1 : Az (hb_ (ad_ b) b p = if n < 0 ∨ ((b.length : Int) - q0) / 8 < n then none else ab_ (ad_ b) n.toNat q0) := ⟨We_⟩; have hpos := hr1.pos; have c0 : w1.cell? ⟨h, 0, none⟩ = some (.slice A b.length c) := ba_ hr1.blk 0; have c1 : w1.cell? ⟨h, 1, none⟩ = some (.int .i64 (q0 : Int)) := ba_ hr1.blk 1; have HR1 := aM_ hr1; have HK1 := aM_ hk1; have hw1 : wrap64 ((b.length : Int) - (q0 : Int)) = (b.length : Int) - (q0 : Int) := by rw [wrap64]; omega
  have hw2 : wrap64 (((b.length : Int) - (q0 : Int)) / 8) = ((b.length : Int) - (q0 : Int)) / 8 := by rw [wrap64]; omega
  have hdd : ((b.length : Int) - (q0 : Int)) / 8 ≤ 125000000000 := by omega
  clear hr1 hk1 hp HQ0 HP0
  by_cases hbad : n < 0 ∨ ((b.length : Int) - (q0 : Int)) / 8 < n
  ·have HPP : Az (hb_ (ad_ b) b p = none) := ⟨Wz_⟩
   by_cases hn0 : n < 0
   ·have e1 : decide (n < 0) = true := decide_eq_true hn0
    clear hbad hn0
    go_wp2
    go_quiet (fail)
    go_wp2
    refine ⟨rfl, ?_⟩; rw [HPP.out]; exact ⟨⟨_, _, rfl⟩, da_ HR1.out.below (ca_ (Below.refl _ _) _)⟩
   have e1 : decide (n < 0) = false := decide_eq_false hn0; have e2 : decide (((b.length : Int) - (q0 : Int)) / 8 < n) = true := decide_eq_true Td_; clear hbad hn0
   go_wp2
   go_quiet (fail)
   go_wp2
   refine ⟨rfl, ?_⟩; rw [HPP.out]; exact ⟨⟨_, _, rfl⟩, da_ HR1.out.below (ca_ (Below.refl _ _) _)⟩
  obtain ⟨m, rfl⟩ : ∃ m : Nat, n = (m : Int) := ⟨n.toNat, Td_⟩; have hm : m ≤ 125000000000 := by omega
  have e1 : decide ((m : Int) < 0) = false := decide_eq_false Td_; have e2 : decide (((b.length : Int) - (q0 : Int)) / 8 < (m : Int)) = false := decide_eq_false Td_; have HPP : Az (hb_ (ad_ b) b p = ab_ (ad_ b) m q0) := ⟨Wa_⟩; clear hbad HP1
  go_wp2
  go_quiet (fail)
  have HR2 : Az (RdAt w0 h A b c q0 (w1.drewN nq)) := ⟨⟨HR1.out.blk, ca_ HR1.out.below _, HR1.out.ge, HR1.out.pos⟩⟩; have HK2 : Az (KeptR h W (w1.drewN nq)) := ⟨HK1.out.trans (KeptR.below (ca_ (Below.refl _ _) _))⟩; have HR0 : Az (Kd.R k52 52 (w1.drewN nq) w0.heap.size (fun k => W.heap.size ≤ k) (.slice none 0 0) []) := ⟨Kd.R_nil _ _ _ _ _⟩; have HT0 : Az (ab_ (ad_ b) m q0 = (ab_ (ad_ b) (m - 0) q0).map fun y => ([] ++ y.1, y.2)) := ⟨Tt_⟩; clear HR1 HK1 c0 c1; generalize w1.drewN nq = w2 at *
  go_wp2
  go_loopg [6, 33] m (fun gg s6 s33 wr => ∃ (i : Nat) (xs : List S52) (q : Nat), i ≤ m ∧ m - i ≤ gg ∧ s33 = .int .i64 i ∧ Az (xs.length = i) ∧ Az (ab_ (ad_ b) m q0 = (ab_ (ad_ b) (m - i) q).map fun y => (xs ++ y.1, y.2)) ∧ Az (Kd.R k52 52 wr w0.heap.size (fun k => W.heap.size ≤ k) s6 xs) ∧ Az (RdAt w0 h A b c q wr) ∧ Az (KeptR h W wr))
  case atStart => exact ⟨0, [], q0, Td_, Td_, rfl, ⟨rfl⟩, HT0, HR0, HR2, HK2⟩
  clear HR0 HR2 HK2 HT0; obtain ⟨i, xs, q, hi, hgg, rfl, HL, HT, HX, HW, HK⟩ := hrel; obtain ⟨A6, c6, hs6⟩ := Kd.R_slice HX.out; subst hs6
  by_cases hil : i < m
  ·have hilz : (i : Int) < (m : Int) := by omega
   have HQ := aM_ (style_rd w0 h A b c q wr HS.out HW.out)
   go_wp2_with fail
   refine HQ.out.mono ?_; intro e w3 hq
   cases hp : ad_ b q with
   | none =>
    rw [hp] at hq; obtain ⟨⟨T, v, rfl⟩, hbl⟩ := hq
    exact ⟨rfl, Ur_⟩
   | some z =>
    obtain ⟨x, q1⟩ := z; rw [hp] at hq; obtain ⟨⟨v, rfl, cs, rfl, hm⟩, hr1, hk1⟩ := hq; obtain ⟨u1, rfl, gu1⟩ := gv_ hm; have hv := hm; clear gu1; clear hm
    have HT1 : Az (ab_ (ad_ b) m q0 = (ab_ (ad_ b) (m - (i + 1)) q1).map fun y => (xs ++ [x] ++ y.1, y.2)) := ⟨by
     rw [HT.out, show m - i = (m - (i + 1)) + 1 from by omega, ab_, hp]; simp only [Option.bind_some, Option.map_map]
     congr 1
     funext y
     simp⟩
    have HX1 := aM_ (ue_ HX.out hk1 (fun k hk => by have := HG.out; omega)); have HW1 := aM_ hr1; have HK1 := aM_ (HK.out.trans hk1); have HSZ := aM_ (HK.out.size HW.out); have HSY := aM_ (hk1.size hr1); have hlx : xs.length ≤ 125000000000 := by rw [HL.out]; omega
    have HLX := aM_ hlx; have HOW : Az (∀ k, (Value.slice A6 xs.length c6).ownBlock = some k → k < wr.heap.size) := ⟨fun k hk => Kd.R_own_lt HX.out hk⟩; clear hp hr1 hk1 HQ hlx HT HX HK
    go_wp2_with (at_builtin; go_loud (refine Kd.R_append k52 (w0 := w0) w0.heap.size rfl (.tmp 35) (.tmp 38) 42 52 (.agg #[.int .i64 0, .slice none 0 0]) 32 rfl Tryz.underlying42 Ti_ rfl Xb_ Tm_ (.slice A6 xs.length c6) xs x [.int .i64 x.f0, u1] (fun k => W.heap.size ≤ k) (fun k => wr.heap.size ≤ k) rfl rfl hv Uc_ Us_ HX1.out Ws_ Wl_ Wn_ ?_); intro v4 w4 ho hb hg hat)
    have HR5 : Az (RdAt w0 h A b c q1 w4) := ⟨⟨fb_ HW1.out.blk hg (fun e => by have := HX1.out.1 _ e.symm; have := HG.out; omega), hb, HW1.out.ge, HW1.out.pos⟩⟩; have HK5 : Az (KeptR h W w4) := ⟨fun k o hko hne => fb_ (HK1.out k o hko hne) hg (fun e => by have := HX1.out.1 _ e.symm; have := bb_ hko; omega)⟩; have HX5 := aM_ ho; have HL5 : Az ((xs ++ [x]).length = i + 1) := ⟨Wj_⟩; clear ho hb hg hat hv HX1 HW1 HK1 HL HOW HSZ HSY HLX; generalize xs ++ [x] = ys at *; obtain ⟨A7, c7, hs7⟩ := Kd.R_slice HX5.out; subst hs7
    go_wp2
    go_roundg (m - (i + 1))
    case measure => omega
    case rel => exact ⟨i + 1, ys, q1, Td_, Td_, Va_, HL5, HT1, HX5, HR5, HK5⟩
  have he : i = m := by omega
  have hilz : decide ((i : Int) < (m : Int)) = false := by simp; omega
  have HPQ : Az (hb_ (ad_ b) b p = some (xs, q)) := ⟨Vr_⟩; have HCL := aM_ (ft_ A6 c6 xs wr W.heap.size w0.heap.size HX.out (HK.out.size HW.out) HW.out.below.size Xg_); clear he HPP HT HL
  go_wp2_with fail
  refine HCL.out.mono ?_; rintro e w5 ⟨v5, rfl, hR5, hB5⟩; have HO := aM_ hR5; have HR6 : Az (RdAt w0 h A b c q w5) := ⟨⟨la_ HW.out.blk hB5, da_ HW.out.below hB5, HW.out.ge, HW.out.pos⟩⟩; have HK6 : Az (KeptR h W w5) := ⟨HK.out.trans (KeptR.below hB5)⟩; obtain ⟨A7, c7, hs7⟩ := Kd.R_slice hR5; subst hs7; clear hR5 hB5 HCL
  go_wp2
  go_ret
  rw [HPQ.out]; exact ⟨⟨_, rfl, HO.out⟩, HR6.out, HK6.out⟩
def pLoc (b : List Int) (p : Nat) : Option (S44 × Nat) := (yg_ b p).bind fun z0 => (pNum b z0.2).bind fun z1 => (pNum b z1.2).bind fun z2 => (hb_ (pEnt b) b z2.2).bind fun z3 => (hb_ (od_ b) b z3.2).bind fun z4 => (hb_ (ad_ b) b z4.2).bind fun z5 => some (⟨z0.1, z1.1, z2.1, z3.1, z4.1, z5.1⟩, z5.2)
theorem cv_ (w0 : World) (h : Nat) (A : Option Addr) (b : List Int) (c p : Nat) (W : World) (hs : Src w0 A b c) (hr : RdAt w0 h A b c p W) :
  Calls Tryz.prog 38 #[.pointer (some ⟨h, 0, none⟩)] W fun e W' => Rd w0 h A b c W (VM k44 w0 W) e W' (pLoc b p) := by
 have HS := aM_ hs
 have HG : Az (h < W.heap.size) := ⟨bb_ hr.blk⟩
 have hmf : ∀ (fn : Fn) (first cap : Array Value) (w : World), (Instr.makeFunc fn first cap).run Tryz.prog w = .ok (.func fn first cap) w := fun _ _ _ _ => rfl
 have HZ0 : Az (W.heap.size < (W.alloc (.cells #[.string ⟨#[]⟩, .int .i64 0, .int .i64 0, .slice none 0 0, .slice none 0 0, .slice none 0 0] 44)).heap.size) := ⟨Tt_⟩
 have HR0 : Az (RdAt w0 h A b c p (W.alloc (.cells #[.string ⟨#[]⟩, .int .i64 0, .int .i64 0, .slice none 0 0, .slice none 0 0, .slice none 0 0] 44))) := ⟨⟨la_ hr.blk (aa_ (Below.refl _ _) _), da_ hr.below (aa_ (Below.refl _ _) _), hr.ge, hr.pos⟩⟩
 have HB0 : Az ((W.alloc (.cells #[.string ⟨#[]⟩, .int .i64 0, .int .i64 0, .slice none 0 0, .slice none 0 0, .slice none 0 0] 44)).heap[W.heap.size]? = some (.cells #[.string ⟨#[]⟩, .int .i64 0, .int .i64 0, .slice none 0 0, .slice none 0 0, .slice none 0 0] 44 (0, 0))) := ⟨oa_ W _⟩
 have HK0 : Az (KeptR h W (W.alloc (.cells #[.string ⟨#[]⟩, .int .i64 0, .int .i64 0, .slice none 0 0, .slice none 0 0, .slice none 0 0] 44))) := ⟨KeptR.below (aa_ (Below.refl _ _) _)⟩
 have HP0 : Az (pLoc b p = (yg_ b p).bind fun z0 => (pNum b z0.2).bind fun z1 => (pNum b z1.2).bind fun z2 => (hb_ (pEnt b) b z2.2).bind fun z3 => (hb_ (od_ b) b z3.2).bind fun z4 => (hb_ (ad_ b) b z4.2).bind fun z5 => some (⟨z0.1, z1.1, z2.1, z3.1, z4.1, z5.1⟩, z5.2)) := ⟨rfl⟩
 have HQ0 := aM_ (to_ w0 h A b c p _ HS.out HR0.out)
 clear hs hr
 go_enter Tryz.func38, Tryz.ntmps38
 go_wp2_with fail
 refine HQ0.out.mono ?_
 intro e w1 hq
 cases hp : yg_ b p with
 | none =>
  rw [hp] at hq; obtain ⟨⟨T, v, rfl⟩, hbl⟩ := hq
  exact ⟨rfl, Ux_⟩
 | some z =>
  obtain ⟨x0, q0⟩ := z; rw [hp] at hq; obtain ⟨⟨v, rfl, rfl⟩, hr1, hk1⟩ := hq; have HP1 : Az (pLoc b p = (pNum b q0).bind fun z1 => (pNum b z1.2).bind fun z2 => (hb_ (pEnt b) b z2.2).bind fun z3 => (hb_ (od_ b) b z3.2).bind fun z4 => (hb_ (ad_ b) b z4.2).bind fun z5 => some (⟨x0, z1.1, z2.1, z3.1, z4.1, z5.1⟩, z5.2)) := ⟨We_⟩; have HR1 := aM_ hr1; have HK1 := aM_ (HK0.out.trans hk1); have HZ1 := aM_ (Nat.lt_of_lt_of_le HZ0.out (hk1.size hr1)); have HB1 := aM_ (hk1 _ _ HB0.out (Nat.ne_of_gt HG.out)); have HQ1 := aM_ (ic_ w0 h A b c q0 w1 HS.out HR1.out); clear hr1 hk1 hp HQ0 HR0 HB0 HK0 HP0 HZ0
  go_wp2_with fail
  refine HQ1.out.mono ?_; intro e w2 hq
  cases hp : pNum b q0 with
  | none =>
   rw [hp] at hq; obtain ⟨⟨T, v, rfl⟩, hbl⟩ := hq
   exact ⟨rfl, Wk_⟩
  | some z =>
   obtain ⟨x1, q1⟩ := z; rw [hp] at hq; obtain ⟨⟨v, rfl, rfl⟩, hr1, hk1⟩ := hq; have HP2 : Az (pLoc b p = (pNum b q1).bind fun z2 => (hb_ (pEnt b) b z2.2).bind fun z3 => (hb_ (od_ b) b z3.2).bind fun z4 => (hb_ (ad_ b) b z4.2).bind fun z5 => some (⟨x0, x1, z2.1, z3.1, z4.1, z5.1⟩, z5.2)) := ⟨Xi_⟩; have HR2 := aM_ hr1; have HK2 := aM_ (HK1.out.trans hk1); have HZ2 := aM_ (Nat.lt_of_lt_of_le HZ1.out (hk1.size hr1)); have HB2 := aM_ (hk1 _ _ HB1.out (Nat.ne_of_gt HG.out)); have HQ2 := aM_ (ic_ w0 h A b c q1 w2 HS.out HR2.out); clear hr1 hk1 hp HQ1 HR1 HB1 HK1 HP1 HZ1
   go_wp2_with fail
   refine HQ2.out.mono ?_; intro e w3 hq
   cases hp : pNum b q1 with
   | none =>
    rw [hp] at hq; obtain ⟨⟨T, v, rfl⟩, hbl⟩ := hq
    exact ⟨rfl, Wt_⟩
   | some z =>
    obtain ⟨x2, q2⟩ := z; rw [hp] at hq; obtain ⟨⟨v, rfl, rfl⟩, hr1, hk1⟩ := hq; have HP3 : Az (pLoc b p = (hb_ (pEnt b) b q2).bind fun z3 => (hb_ (od_ b) b z3.2).bind fun z4 => (hb_ (ad_ b) b z4.2).bind fun z5 => some (⟨x0, x1, x2, z3.1, z4.1, z5.1⟩, z5.2)) := ⟨by rw [HP2.out, hp]; rfl⟩; have HR3 := aM_ hr1; have HK3 := aM_ (HK2.out.trans hk1); have HZ3 := aM_ (Nat.lt_of_lt_of_le HZ2.out (hk1.size hr1)); have HB3 := aM_ (hk1 _ _ HB2.out (Nat.ne_of_gt HG.out)); have HQ3 := aM_ (manyE_rd w0 h A b c q2 w3 HS.out HR3.out); clear hr1 hk1 hp HQ2 HR2 HB2 HK2 HP2 HZ2
    go_wp2_with fail
    refine HQ3.out.mono ?_; intro e w4 hq
    cases hp : hb_ (pEnt b) b q2 with
    | none =>
     rw [hp] at hq; obtain ⟨⟨T, v, rfl⟩, hbl⟩ := hq
     exact ⟨rfl, by rw [HP3.out, hp]; exact ⟨⟨T, v, rfl⟩, hbl⟩⟩
    | some z =>
     obtain ⟨x3, q3⟩ := z; rw [hp] at hq; obtain ⟨⟨v, rfl, hv3⟩, hr1, hk1⟩ := hq; obtain ⟨R3, k3, hs1⟩ := Kd.R_slice hv3; subst hs1; have HP4 : Az (pLoc b p = (hb_ (od_ b) b q3).bind fun z4 => (hb_ (ad_ b) b z4.2).bind fun z5 => some (⟨x0, x1, x2, x3, z4.1, z5.1⟩, z5.2)) := ⟨by rw [HP3.out, hp]; rfl⟩; have HR4 := aM_ hr1; have HK4 := aM_ (HK3.out.trans hk1); have HZ4 := aM_ (Nat.lt_of_lt_of_le HZ3.out (hk1.size hr1)); have HB4 := aM_ (hk1 _ _ HB3.out (Nat.ne_of_gt HG.out)); have HV3_4 := aM_ (Kd.R_mono hv3 (ok' := fun k => W.heap.size < k) (fun k hk => Nat.lt_of_lt_of_le HZ3.out hk)); clear hv3; have HQ4 := aM_ (manyR_rd w0 h A b c q3 w4 HS.out HR4.out); clear hr1 hk1 hp HQ3 HR3 HB3 HK3 HP3 HZ3
     go_wp2_with fail
     refine HQ4.out.mono ?_; intro e w5 hq
     cases hp : hb_ (od_ b) b q3 with
     | none =>
      rw [hp] at hq; obtain ⟨⟨T, v, rfl⟩, hbl⟩ := hq
      exact ⟨rfl, by rw [HP4.out, hp]; exact ⟨⟨T, v, rfl⟩, hbl⟩⟩
     | some z =>
      obtain ⟨x4, q4⟩ := z; rw [hp] at hq; obtain ⟨⟨v, rfl, hv4⟩, hr1, hk1⟩ := hq; obtain ⟨R4, k4, hs1⟩ := Kd.R_slice hv4; subst hs1; have HP5 : Az (pLoc b p = (hb_ (ad_ b) b q4).bind fun z5 => some (⟨x0, x1, x2, x3, x4, z5.1⟩, z5.2)) := ⟨by rw [HP4.out, hp]; rfl⟩; have HR5 := aM_ hr1; have HK5 := aM_ (HK4.out.trans hk1); have HZ5 := aM_ (Nat.lt_of_lt_of_le HZ4.out (hk1.size hr1)); have HB5 := aM_ (hk1 _ _ HB4.out (Nat.ne_of_gt HG.out)); have HV3_5 := aM_ (ue_ HV3_4.out hk1 (fun k hk => by have := HG.out; omega)); clear HV3_4; have HV4_5 := aM_ (Kd.R_mono hv4 (ok' := fun k => W.heap.size < k) (fun k hk => Nat.lt_of_lt_of_le HZ4.out hk)); clear hv4; have HQ5 := aM_ (manyS_rd w0 h A b c q4 w5 HS.out HR5.out); clear hr1 hk1 hp HQ4 HR4 HB4 HK4 HP4 HZ4
      go_wp2_with fail
      refine HQ5.out.mono ?_; intro e w6 hq
      cases hp : hb_ (ad_ b) b q4 with
      | none =>
       rw [hp] at hq; obtain ⟨⟨T, v, rfl⟩, hbl⟩ := hq
       exact ⟨rfl, by rw [HP5.out, hp]; exact ⟨⟨T, v, rfl⟩, hbl⟩⟩
      | some z =>
       obtain ⟨x5, q5⟩ := z; rw [hp] at hq; obtain ⟨⟨v, rfl, hv5⟩, hr1, hk1⟩ := hq; obtain ⟨R5, k5, hs1⟩ := Kd.R_slice hv5; subst hs1; have HP6 : Az (pLoc b p = some (⟨x0, x1, x2, x3, x4, x5⟩, q5)) := ⟨by rw [HP5.out, hp]; rfl⟩; have HR6 := aM_ hr1; have HK6 := aM_ (HK5.out.trans hk1); have HZ6 := aM_ (Nat.lt_of_lt_of_le HZ5.out (hk1.size hr1)); have HB6 := aM_ (hk1 _ _ HB5.out (Nat.ne_of_gt HG.out)); have HV3_6 := aM_ (ue_ HV3_5.out hk1 (fun k hk => by have := HG.out; omega)); clear HV3_5; have HV4_6 := aM_ (ue_ HV4_5.out hk1 (fun k hk => by have := HG.out; omega)); clear HV4_5; have HV5_6 := aM_ (Kd.R_mono hv5 (ok' := fun k => W.heap.size < k) (fun k hk => Nat.lt_of_lt_of_le HZ5.out hk)); clear hv5; clear hr1 hk1 hp HQ5 HR5 HB5 HK5 HP5 HZ5; have hf_0 := ha_ HB6.out 0; have hc_0 := ba_ HB6.out 0; have hf_1 := ha_ HB6.out 1; have hc_1 := ba_ HB6.out 1; have hf_2 := ha_ HB6.out 2; have hc_2 := ba_ HB6.out 2; have hf_3 := ha_ HB6.out 3; have hc_3 := ba_ HB6.out 3; have hf_4 := ha_ HB6.out 4; have hc_4 := ba_ HB6.out 4; have hf_5 := ha_ HB6.out 5; have hc_5 := ba_ HB6.out 5; have hu1 := Tryz.underlying44
       go_wp2
       have hb1 : ((((((w6.setCell ⟨W.heap.size, 0, none⟩ (.string x0)).setCell ⟨W.heap.size, 1, none⟩ (.int .i64 x1)).setCell ⟨W.heap.size, 2, none⟩ (.int .i64 x2)).setCell ⟨W.heap.size, 3, none⟩ (.slice R3 x3.length k3)).setCell ⟨W.heap.size, 4, none⟩ (.slice R4 x4.length k4)).setCell ⟨W.heap.size, 5, none⟩ (.slice R5 x5.length k5)).heap[W.heap.size]? = some (.cells #[.string x0, .int .i64 x1, .int .i64 x2, .slice R3 x3.length k3, .slice R4 x4.length k4, .slice R5 x5.length k5] 44 (0, 0)) := by simpa using (qa_ (qa_ (qa_ (qa_ (qa_ (qa_ HB6.out 0 (.string x0)) 1 (.int .i64 x1)) 2 (.int .i64 x2)) 3 (.slice R3 x3.length k3)) 4 (.slice R4 x4.length k4)) 5 (.slice R5 x5.length k5))
       have hv3 := Kd.R_mono (Kd.R_far (Kd.R_far (Kd.R_far (Kd.R_far (Kd.R_far (Kd.R_far HV3_6.out (p := ⟨W.heap.size, 0, none⟩) (fun k hk => Nat.ne_of_gt hk) (.string x0)) (p := ⟨W.heap.size, 1, none⟩) (fun k hk => Nat.ne_of_gt hk) (.int .i64 x1)) (p := ⟨W.heap.size, 2, none⟩) (fun k hk => Nat.ne_of_gt hk) (.int .i64 x2)) (p := ⟨W.heap.size, 3, none⟩) (fun k hk => Nat.ne_of_gt hk) (.slice R3 x3.length k3)) (p := ⟨W.heap.size, 4, none⟩) (fun k hk => Nat.ne_of_gt hk) (.slice R4 x4.length k4)) (p := ⟨W.heap.size, 5, none⟩) (fun k hk => Nat.ne_of_gt hk) (.slice R5 x5.length k5)) (ok' := fun k => W.heap.size ≤ k) (fun k hk => Nat.le_of_lt hk); have hv4 := Kd.R_mono (Kd.R_far (Kd.R_far (Kd.R_far (Kd.R_far (Kd.R_far (Kd.R_far HV4_6.out (p := ⟨W.heap.size, 0, none⟩) (fun k hk => Nat.ne_of_gt hk) (.string x0)) (p := ⟨W.heap.size, 1, none⟩) (fun k hk => Nat.ne_of_gt hk) (.int .i64 x1)) (p := ⟨W.heap.size, 2, none⟩) (fun k hk => Nat.ne_of_gt hk) (.int .i64 x2)) (p := ⟨W.heap.size, 3, none⟩) (fun k hk => Nat.ne_of_gt hk) (.slice R3 x3.length k3)) (p := ⟨W.heap.size, 4, none⟩) (fun k hk => Nat.ne_of_gt hk) (.slice R4 x4.length k4)) (p := ⟨W.heap.size, 5, none⟩) (fun k hk => Nat.ne_of_gt hk) (.slice R5 x5.length k5)) (ok' := fun k => W.heap.size ≤ k) (fun k hk => Nat.le_of_lt hk); have hv5 := Kd.R_mono (Kd.R_far (Kd.R_far (Kd.R_far (Kd.R_far (Kd.R_far (Kd.R_far HV5_6.out (p := ⟨W.heap.size, 0, none⟩) (fun k hk => Nat.ne_of_gt hk) (.string x0)) (p := ⟨W.heap.size, 1, none⟩) (fun k hk => Nat.ne_of_gt hk) (.int .i64 x1)) (p := ⟨W.heap.size, 2, none⟩) (fun k hk => Nat.ne_of_gt hk) (.int .i64 x2)) (p := ⟨W.heap.size, 3, none⟩) (fun k hk => Nat.ne_of_gt hk) (.slice R3 x3.length k3)) (p := ⟨W.heap.size, 4, none⟩) (fun k hk => Nat.ne_of_gt hk) (.slice R4 x4.length k4)) (p := ⟨W.heap.size, 5, none⟩) (fun k hk => Nat.ne_of_gt hk) (.slice R5 x5.length k5)) (ok' := fun k => W.heap.size ≤ k) (fun k hk => Nat.le_of_lt hk); refine bodyPost_ret (results_cell_row rfl _ _ W.heap.size 44 #[.string x0, .int .i64 x1, .int .i64 x2, .slice R3 x3.length k3, .slice R4 x4.length k4, .slice R5 x5.length k5] (0, 0) _ rfl hb1 Tryz.underlying44 rfl Ti_) rfl ?_; rw [HP6.out]; exact ⟨⟨_, rfl, _, rfl, k44_mkM _ _ _ (⟨x0, x1, x2, x3, x4, x5⟩ : S44) hv3 hv4 hv5⟩, (RdAt.box (RdAt.box (RdAt.box (RdAt.box (RdAt.box (RdAt.box HR6.out HG.out _ _) HG.out _ _) HG.out _ _) HG.out _ _) HG.out _ _) HG.out _ _), (KeptR.box (KeptR.box (KeptR.box (KeptR.box (KeptR.box (KeptR.box HK6.out (Nat.le_refl _) _ _) (Nat.le_refl _) _ _) (Nat.le_refl _) _ _) (Nat.le_refl _) _ _) (Nat.le_refl _) _ _) (Nat.le_refl _) _ _)⟩
theorem manyL_rd (w0 : World) (h : Nat) (A : Option Addr) (b : List Int) (c p : Nat) (W : World) (hs : Src w0 A b c) (hr : RdAt w0 h A b c p W) :
  Calls Tryz.prog 37 #[.pointer (some ⟨h, 0, none⟩), .func (.func 38) #[.pointer (some ⟨h, 0, none⟩)] #[]] W fun e W' => Rd w0 h A b c W (VR k44 44 w0 W) e W' (hb_ (pLoc b) b p) := by
 have HS := aM_ hs
 have hlb := hs.len
 have HG : Az (h < W.heap.size) := ⟨bb_ hr.blk⟩
 have HP0 : Az (hb_ (pLoc b) b p = (pNum b p).bind fun z => if z.1 < 0 ∨ ((b.length : Int) - z.2) / 8 < z.1 then none else ab_ (pLoc b) z.1.toNat z.2) := ⟨rfl⟩
 have HQ0 := aM_ (ic_ w0 h A b c p W hs hr)
 clear hs hr
 go_enter Tryz.func37, Tryz.ntmps37
 go_wp2_with fail
 refine HQ0.out.mono ?_
 intro e w1 hq
 cases hp : pNum b p with
 | none =>
  rw [hp] at hq; obtain ⟨⟨T, v, rfl⟩, hbl⟩ := hq
  exact ⟨rfl, Ux_⟩
 | some z =>
  obtain ⟨n, q0⟩ := z; rw [hp] at hq; obtain ⟨⟨v, rfl, rfl⟩, hr1, hk1⟩ := hq; have HP1 : Az (hb_ (pLoc b) b p = if n < 0 ∨ ((b.length : Int) - q0) / 8 < n then none else ab_ (pLoc b) n.toNat q0) := ⟨We_⟩; have hpos := hr1.pos; have c0 : w1.cell? ⟨h, 0, none⟩ = some (.slice A b.length c) := ba_ hr1.blk 0; have c1 : w1.cell? ⟨h, 1, none⟩ = some (.int .i64 (q0 : Int)) := ba_ hr1.blk 1; have HR1 := aM_ hr1; have HK1 := aM_ hk1; have hw1 : wrap64 ((b.length : Int) - (q0 : Int)) = (b.length : Int) - (q0 : Int) := by rw [wrap64]; omega
  have hw2 : wrap64 (((b.length : Int) - (q0 : Int)) / 8) = ((b.length : Int) - (q0 : Int)) / 8 := by rw [wrap64]; omega
  have hdd : ((b.length : Int) - (q0 : Int)) / 8 ≤ 125000000000 := by omega
  clear hr1 hk1 hp HQ0 HP0
  by_cases hbad : n < 0 ∨ ((b.length : Int) - (q0 : Int)) / 8 < n
  ·have HPP : Az (hb_ (pLoc b) b p = none) := ⟨Wz_⟩
   by_cases hn0 : n < 0
   ·have e1 : decide (n < 0) = true := decide_eq_true hn0
    clear hbad hn0
    go_wp2
    go_quiet (fail)
    go_wp2
    refine ⟨rfl, ?_⟩; rw [HPP.out]; exact ⟨⟨_, _, rfl⟩, da_ HR1.out.below (ca_ (Below.refl _ _) _)⟩
   have e1 : decide (n < 0) = false := decide_eq_false hn0; have e2 : decide (((b.length : Int) - (q0 : Int)) / 8 < n) = true := decide_eq_true Td_; clear hbad hn0
   go_wp2
   go_quiet (fail)
   go_wp2
   refine ⟨rfl, ?_⟩; rw [HPP.out]; exact ⟨⟨_, _, rfl⟩, da_ HR1.out.below (ca_ (Below.refl _ _) _)⟩
  obtain ⟨m, rfl⟩ : ∃ m : Nat, n = (m : Int) := ⟨n.toNat, Td_⟩; have hm : m ≤ 125000000000 := by omega
  have e1 : decide ((m : Int) < 0) = false := decide_eq_false Td_; have e2 : decide (((b.length : Int) - (q0 : Int)) / 8 < (m : Int)) = false := decide_eq_false Td_; have HPP : Az (hb_ (pLoc b) b p = ab_ (pLoc b) m q0) := ⟨Wa_⟩; clear hbad HP1
  go_wp2
  go_quiet (fail)
  have HR2 : Az (RdAt w0 h A b c q0 (w1.drewN nq)) := ⟨⟨HR1.out.blk, ca_ HR1.out.below _, HR1.out.ge, HR1.out.pos⟩⟩; have HK2 : Az (KeptR h W (w1.drewN nq)) := ⟨HK1.out.trans (KeptR.below (ca_ (Below.refl _ _) _))⟩; have HR0 : Az (Kd.R k44 44 (w1.drewN nq) w0.heap.size (fun k => W.heap.size ≤ k) (.slice none 0 0) []) := ⟨Kd.R_nil _ _ _ _ _⟩; have HT0 : Az (ab_ (pLoc b) m q0 = (ab_ (pLoc b) (m - 0) q0).map fun y => ([] ++ y.1, y.2)) := ⟨Tt_⟩; clear HR1 HK1 c0 c1; generalize w1.drewN nq = w2 at *
  go_wp2
  go_loopg [6, 33] m (fun gg s6 s33 wr => ∃ (i : Nat) (xs : List S44) (q : Nat), i ≤ m ∧ m - i ≤ gg ∧ s33 = .int .i64 i ∧ Az (xs.length = i) ∧ Az (ab_ (pLoc b) m q0 = (ab_ (pLoc b) (m - i) q).map fun y => (xs ++ y.1, y.2)) ∧ Az (Kd.R k44 44 wr w0.heap.size (fun k => W.heap.size ≤ k) s6 xs) ∧ Az (RdAt w0 h A b c q wr) ∧ Az (KeptR h W wr))
  case atStart => exact ⟨0, [], q0, Td_, Td_, rfl, ⟨rfl⟩, HT0, HR0, HR2, HK2⟩
  clear HR0 HR2 HK2 HT0; obtain ⟨i, xs, q, hi, hgg, rfl, HL, HT, HX, HW, HK⟩ := hrel; obtain ⟨A6, c6, hs6⟩ := Kd.R_slice HX.out; subst hs6
  by_cases hil : i < m
  ·have hilz : (i : Int) < (m : Int) := by omega
   have HQ := aM_ (cv_ w0 h A b c q wr HS.out HW.out)
   go_wp2_with fail
   refine HQ.out.mono ?_; intro e w3 hq
   cases hp : pLoc b q with
   | none =>
    rw [hp] at hq; obtain ⟨⟨T, v, rfl⟩, hbl⟩ := hq
    exact ⟨rfl, Ur_⟩
   | some z =>
    obtain ⟨x, q1⟩ := z; rw [hp] at hq; obtain ⟨⟨v, rfl, cs, rfl, hm⟩, hr1, hk1⟩ := hq; obtain ⟨u3, u4, u5, rfl, gu3, gu4, gu5⟩ := jv_ hm; have hv := hm; clear gu3; clear gu4; clear gu5; clear hm
    have HT1 : Az (ab_ (pLoc b) m q0 = (ab_ (pLoc b) (m - (i + 1)) q1).map fun y => (xs ++ [x] ++ y.1, y.2)) := ⟨by
     rw [HT.out, show m - i = (m - (i + 1)) + 1 from by omega, ab_, hp]; simp only [Option.bind_some, Option.map_map]
     congr 1
     funext y
     simp⟩
    have HX1 := aM_ (ue_ HX.out hk1 (fun k hk => by have := HG.out; omega)); have HW1 := aM_ hr1; have HK1 := aM_ (HK.out.trans hk1); have HSZ := aM_ (HK.out.size HW.out); have HSY := aM_ (hk1.size hr1); have hlx : xs.length ≤ 125000000000 := by rw [HL.out]; omega
    have HLX := aM_ hlx; have HOW : Az (∀ k, (Value.slice A6 xs.length c6).ownBlock = some k → k < wr.heap.size) := ⟨fun k hk => Kd.R_own_lt HX.out hk⟩; clear hp hr1 hk1 HQ hlx HT HX HK
    go_wp2_with (at_builtin; go_loud (refine Kd.R_append k44 (w0 := w0) w0.heap.size rfl (.tmp 35) (.tmp 38) 26 44 (.agg #[.string ⟨#[]⟩, .int .i64 0, .int .i64 0, .slice none 0 0, .slice none 0 0, .slice none 0 0]) 104 rfl Tryz.underlying26 Ti_ rfl (by show 0 < 6; decide) Tm_ (.slice A6 xs.length c6) xs x [.string x.f0, .int .i64 x.f1, .int .i64 x.f2, u3, u4, u5] (fun k => W.heap.size ≤ k) (fun k => wr.heap.size ≤ k) rfl rfl hv Uc_ Us_ HX1.out Ws_ Wl_ Wn_ ?_); intro v4 w4 ho hb hg hat)
    have HR5 : Az (RdAt w0 h A b c q1 w4) := ⟨⟨fb_ HW1.out.blk hg (fun e => by have := HX1.out.1 _ e.symm; have := HG.out; omega), hb, HW1.out.ge, HW1.out.pos⟩⟩; have HK5 : Az (KeptR h W w4) := ⟨fun k o hko hne => fb_ (HK1.out k o hko hne) hg (fun e => by have := HX1.out.1 _ e.symm; have := bb_ hko; omega)⟩; have HX5 := aM_ ho; have HL5 : Az ((xs ++ [x]).length = i + 1) := ⟨Wj_⟩; clear ho hb hg hat hv HX1 HW1 HK1 HL HOW HSZ HSY HLX; generalize xs ++ [x] = ys at *; obtain ⟨A7, c7, hs7⟩ := Kd.R_slice HX5.out; subst hs7
    go_wp2
    go_roundg (m - (i + 1))
    case measure => omega
    case rel => exact ⟨i + 1, ys, q1, Td_, Td_, Va_, HL5, HT1, HX5, HR5, HK5⟩
  have he : i = m := by omega
  have hilz : decide ((i : Int) < (m : Int)) = false := by simp; omega
  have HPQ : Az (hb_ (pLoc b) b p = some (xs, q)) := ⟨Vr_⟩; have HCL := aM_ (cloneL A6 c6 xs wr W.heap.size w0.heap.size HX.out (HK.out.size HW.out) HW.out.below.size Xg_); clear he HPP HT HL
  go_wp2_with fail
  refine HCL.out.mono ?_; rintro e w5 ⟨v5, rfl, hR5, hB5⟩; have HO := aM_ hR5; have HR6 : Az (RdAt w0 h A b c q w5) := ⟨⟨la_ HW.out.blk hB5, da_ HW.out.below hB5, HW.out.ge, HW.out.pos⟩⟩; have HK6 : Az (KeptR h W w5) := ⟨HK.out.trans (KeptR.below hB5)⟩; obtain ⟨A7, c7, hs7⟩ := Kd.R_slice hR5; subst hs7; clear hR5 hB5 HCL
  go_wp2
  go_ret
  rw [HPQ.out]; exact ⟨⟨_, rfl, HO.out⟩, HR6.out, HK6.out⟩
theorem pk_ (p q : Addr) (u : TypeId) (pv x y : Value) (older : List PanicEntry) (w : World) (hc : w.cell? p = some x) (hz : w.frozen? p = false) (hd : w.cell? q = some y) (hy : w.frozen? q = false) (hpq : p.block ≠ q.block) :
  CallsD Tryz.prog 36 #[.pointer (some p), .pointer (some q)] (.panicking ({ v := .iface u pv, recovered := false } :: older)) w fun e u' w' =>
   e = .returned (.tuple #[]) ∧ u' = .panicking ({ v := .iface u pv, recovered := true } :: older) ∧ w' = (w.setCell p (.slice none 0 0)).setCell q (.bool false) := by
 refine callsD_of_wpS Tryz.func36 rfl fun c₀ cs hu => ?_
 apply wpS_seq
 apply wpS_region
 simp [wpOpsS, go_sem, recoverD, hu, Tryz.ntmps36, Exit.thenS]
 apply wpS_seq
 apply wpS_region
 simp [wpOpsS, go_sem, Exit.thenS]
 refine wpS_cond (t := true) (by simp [Act.eval, Array.replicate]) ?_
 simp only [if_true]
 apply wpS_region
 have hq2 : (w.setCell p (.slice none 0 0)).cell? q = some y := by rw [World.cell?_setCell_other _ _ _ _ (fun h => hpq (congrArg Addr.block h))]; exact hd
 have hq3 : (w.setCell p (.slice none 0 0)).frozen? q = false := by simpa using hy
 simp [wpOpsS, go_sem, hc, hz, hq2, hq3, bodyPostS, results, Tryz.results36]
theorem ci_ (p q : Addr) (w : World) :
  CallsD Tryz.prog 36 #[.pointer (some p), .pointer (some q)] .returning w fun e u' w' => e = .returned (.tuple #[]) ∧ u' = .returning ∧ w' = w := by
 refine callsD_of_wpS Tryz.func36 rfl fun c₀ cs hu => ?_
 apply wpS_seq
 apply wpS_region
 simp [wpOpsS, go_sem, recoverD, hu, Tryz.ntmps36, Exit.thenS]
 apply wpS_seq
 apply wpS_region
 simp [wpOpsS, go_sem, Exit.thenS]
 refine wpS_cond (t := false) (by simp [Act.eval, Array.replicate]) ?_
 simp only [Bool.false_eq_true, if_false]
 refine wpS_of_wp (wp_skip ?_)
 cases c₀
 simp_all [bodyPostS, results, Tryz.results36]
noncomputable def decP (b : List Int) : Option (List S44) := match hb_ (pLoc b) b 0 with
 | none => none
 | some (l, q) => if q < b.length then none else if af_ l = true then some l else none
def VDec (w0 : World) (o : Option (List S44)) (v : Value) (w' : World) : Prop := match o with
 | none => v = .slice none 0 0
 | some l => Kd.R k44 44 w' w0.heap.size (fun k => w0.heap.size ≤ k) v l
theorem zj_ (A : Option Addr) (c : Nat) (b : List Int) (w : World) (hr : Kd.C (Kd.int .u8) w A b.length b) (hc : b.length ≤ c) (hlen : b.length ≤ 1000000000000) (hok : ∀ l q, hb_ (pLoc b) b 0 = some (l, q) → hp_ l) :
  Calls Tryz.prog 15 #[.slice A b.length c] w fun e w' => ∃ v : Value, e = .returned (.tuple #[v, .bool (decP b).isSome]) ∧ VDec w (decP b) v w' ∧ Below w.heap.size w w' := by
 have hmf : ∀ (fn : Fn) (first cap : Array Value) (w : World), (Instr.makeFunc fn first cap).run Tryz.prog w = .ok (.func fn first cap) w := fun _ _ _ _ => rfl
 have HOK := aM_ hok
 have hbB : Below w.heap.size w ((w.alloc (.cells #[.slice none 0 0] 26)).alloc (.cells #[.bool false] 4)) := aa_ (aa_ (Below.refl _ _) _) _
 have HBB := aM_ hbB
 have HS : Az (Src ((w.alloc (.cells #[.slice none 0 0] 26)).alloc (.cells #[.bool false] 4)) A b c) := ⟨⟨Kd.C_alloc (Kd.C_alloc hr _) _, hc, hlen⟩⟩
 have hsz : ((w.alloc (.cells #[.slice none 0 0] 26)).alloc (.cells #[.bool false] 4)).heap.size = w.heap.size + 1 + 1 := by simp
 have HP2 : Az (((w.alloc (.cells #[.slice none 0 0] 26)).alloc (.cells #[.bool false] 4)).heap[w.heap.size]? = some (.cells #[.slice none 0 0] 26 (0, 0))) := ⟨la_ (oa_ w _) (aa_ (Below.refl _ _) _)⟩
 have HQ2 : Az (((w.alloc (.cells #[.slice none 0 0] 26)).alloc (.cells #[.bool false] 4)).heap[w.heap.size + 1]? = some (.cells #[.bool false] 4 (0, 0))) := ⟨by have := oa_ (w.alloc (.cells #[.slice none 0 0] 26)) (.cells #[.bool false] 4); simpa using this⟩
 have HR3 : Az (RdAt ((w.alloc (.cells #[.slice none 0 0] 26)).alloc (.cells #[.bool false] 4)) (w.heap.size + 1 + 1) A b c 0 (((w.alloc (.cells #[.slice none 0 0] 26)).alloc (.cells #[.bool false] 4)).alloc (.cells #[.slice A b.length c, .int .i64 0] 82))) := ⟨by
  rw [← hsz]
  exact ⟨oa_ _ _, aa_ (Below.refl _ _) _, Nat.le_refl _, Nat.zero_le _⟩⟩
 have HM := aM_ (manyL_rd ((w.alloc (.cells #[.slice none 0 0] 26)).alloc (.cells #[.bool false] 4)) (w.heap.size + 1 + 1) A b c 0 (((w.alloc (.cells #[.slice none 0 0] 26)).alloc (.cells #[.bool false] 4)).alloc (.cells #[.slice A b.length c, .int .i64 0] 82)) HS.out HR3.out)
 have HZ3 : Az (((w.alloc (.cells #[.slice none 0 0] 26)).alloc (.cells #[.bool false] 4)).heap.size = w.heap.size + 1 + 1 ∧ w.heap.size + 3 ≤ (((w.alloc (.cells #[.slice none 0 0] 26)).alloc (.cells #[.bool false] 4)).alloc (.cells #[.slice A b.length c, .int .i64 0] 82)).heap.size) := ⟨hsz, Tt_⟩
 have HK3 : Az (Below ((w.alloc (.cells #[.slice none 0 0] 26)).alloc (.cells #[.bool false] 4)).heap.size ((w.alloc (.cells #[.slice none 0 0] 26)).alloc (.cells #[.bool false] 4)) (((w.alloc (.cells #[.slice none 0 0] 26)).alloc (.cells #[.bool false] 4)).alloc (.cells #[.slice A b.length c, .int .i64 0] 82))) := ⟨aa_ (Below.refl _ _) _⟩
 clear hr hc hlen hok hbB hsz
 go_enter_defers Tryz.func15, Tryz.ntmps15
 go_wp2_with fail
 generalize (((w.alloc (.cells #[.slice none 0 0] 26)).alloc (.cells #[.bool false] 4)).alloc (.cells #[.slice A b.length c, .int .i64 0] 82)) = W3 at *
 generalize ((w.alloc (.cells #[.slice none 0 0] 26)).alloc (.cells #[.bool false] 4)) = W2 at *
 refine HM.out.mono ?_
 intro e w1 hq
 cases hp : hb_ (pLoc b) b 0 with
 | none =>
  rw [hp] at hq; obtain ⟨⟨T, v, rfl⟩, hbl⟩ := hq; have hd : decP b = none := by unfold decP; rw [hp]
  have hP := la_ HP2.out hbl; have hQ := la_ HQ2.out hbl; have HBW : Az (Below w.heap.size w w1) := ⟨da_ HBB.out hbl⟩; have hP1 := qa_ hP 0 (.slice none 0 0); have hQ1 : (w1.setCell ⟨w.heap.size, 0, none⟩ (.slice none 0 0)).heap[w.heap.size + 1]? = some (.cells #[.bool false] 4 (0, 0)) := (heap_setCell_other w1 ⟨w.heap.size, 0, none⟩ _ _ Wv_).trans hQ; refine leaves_cons (f := 36) (args := #[.pointer (some ⟨w.heap.size, 0, none⟩), .pointer (some ⟨w.heap.size + 1, 0, none⟩)]) Tt_ (by simp [go_sem]) ?_; refine (pk_ ⟨w.heap.size, 0, none⟩ ⟨w.heap.size + 1, 0, none⟩ T v _ _ [] w1 (ba_ hP 0) (ha_ hP 0) (ba_ hQ 0) (ha_ hQ 0) Wm_).mono ?_; rintro e u' w'' ⟨rfl, rfl, rfl⟩
  have hc1 : ((w1.setCell ⟨w.heap.size, 0, none⟩ (.slice none 0 0)).setCell ⟨w.heap.size + 1, 0, none⟩ (.bool false)).cell? ⟨w.heap.size, 0, none⟩ = some (.slice none 0 0) := by
   have := (heap_setCell_other (w1.setCell ⟨w.heap.size, 0, none⟩ (.slice none 0 0)) ⟨w.heap.size + 1, 0, none⟩ w.heap.size (.bool false) Wm_).trans hP1; exact ba_ this 0
  have hc2 : ((w1.setCell ⟨w.heap.size, 0, none⟩ (.slice none 0 0)).setCell ⟨w.heap.size + 1, 0, none⟩ (.bool false)).cell? ⟨w.heap.size + 1, 0, none⟩ = some (.bool false) := ba_ (qa_ hQ1 0 (.bool false)) 0; have hB2 : Below w.heap.size w ((w1.setCell ⟨w.heap.size, 0, none⟩ (.slice none 0 0)).setCell ⟨w.heap.size + 1, 0, none⟩ (.bool false)) := Below.setCell (p := ⟨w.heap.size + 1, 0, none⟩) (Below.setCell (p := ⟨w.heap.size, 0, none⟩) HBW.out (Nat.le_refl _) _) Ww_ _; generalize (w1.setCell ⟨w.heap.size, 0, none⟩ (.slice none 0 0)).setCell ⟨w.heap.size + 1, 0, none⟩ (.bool false) = w2 at *; rw [hd]; clear hP hQ hP1 hQ1; simp [Leaves, settle, results, Tryz.results15, go_sem, hc1, hc2]
  exact ⟨rfl, hB2⟩
 | some z => 
  obtain ⟨l, q⟩ := z; rw [hp] at hq; obtain ⟨⟨v, rfl, hv⟩, hr1, hk1⟩ := hq; obtain ⟨A6, c6, hs6⟩ := Kd.R_slice hv; subst hs6; have hv' : Kd.R k44 44 w1 w.heap.size (fun k => w.heap.size + 3 ≤ k) (.slice A6 l.length c6) l := Kd.R_lower (Kd.R_mono hv (fun k hk => Nat.le_trans HZ3.out.2 hk)) (by have := HZ3.out.1; omega); have HR1 := aM_ hv'; have HOL := aM_ (HOK.out l q hp); have c1 : w1.cell? ⟨w.heap.size + 1 + 1, 1, none⟩ = some (.int .i64 (q : Int)) := ba_ hr1.blk 1; have HPW := aM_ (la_ HP2.out hr1.below); have HQW := aM_ (la_ HQ2.out hr1.below); have HBW : Az (Below w.heap.size w w1) := ⟨da_ HBB.out hr1.below⟩; have hp0 := ba_ HPW.out 0; have hq0 := ba_ HQW.out 0; have hpf := ha_ HPW.out 0; have hqf := ha_ HQW.out 0
  by_cases hlt : q < b.length
  ·have HD : Az (decP b = none) := ⟨by unfold decP; rw [hp]; exact if_pos hlt⟩
   have e1 : decide ((q : Int) < (b.length : Int)) = true := decide_eq_true Td_; have e1' : decide (q < b.length) = true := decide_eq_true hlt; clear hv hv' hr1 hk1 hp hlt
   go_wp2_with fail
   refine leaves_cons (f := 36) (args := #[.pointer (some ⟨w.heap.size, 0, none⟩), .pointer (some ⟨w.heap.size + 1, 0, none⟩)]) Tt_ (by simp [go_sem]) ?_; refine (ci_ ⟨w.heap.size, 0, none⟩ ⟨w.heap.size + 1, 0, none⟩ _).mono ?_; rintro e u' w'' ⟨rfl, rfl, rfl⟩; have hP1 := qa_ HPW.out 0 (.slice none 0 0); have hQ1 : (w1.setCell ⟨w.heap.size, 0, none⟩ (.slice none 0 0)).heap[w.heap.size + 1]? = some (.cells #[.bool false] 4 (0, 0)) := (heap_setCell_other w1 ⟨w.heap.size, 0, none⟩ _ _ Wv_).trans HQW.out
   have hc1 : ((w1.setCell ⟨w.heap.size, 0, none⟩ (.slice none 0 0)).setCell ⟨w.heap.size + 1, 0, none⟩ (.bool false)).cell? ⟨w.heap.size, 0, none⟩ = some (.slice none 0 0) := by
    have := (heap_setCell_other (w1.setCell ⟨w.heap.size, 0, none⟩ (.slice none 0 0)) ⟨w.heap.size + 1, 0, none⟩ w.heap.size (.bool false) Wm_).trans hP1; exact ba_ this 0
   have hc2 : ((w1.setCell ⟨w.heap.size, 0, none⟩ (.slice none 0 0)).setCell ⟨w.heap.size + 1, 0, none⟩ (.bool false)).cell? ⟨w.heap.size + 1, 0, none⟩ = some (.bool false) := ba_ (qa_ hQ1 0 (.bool false)) 0; have hB2 : Below w.heap.size w ((w1.setCell ⟨w.heap.size, 0, none⟩ (.slice none 0 0)).setCell ⟨w.heap.size + 1, 0, none⟩ (.bool false)) := Below.setCell (p := ⟨w.heap.size + 1, 0, none⟩) (Below.setCell (p := ⟨w.heap.size, 0, none⟩) HBW.out (Nat.le_refl _) _) Ww_ _; have HV : VDec w none (.slice none 0 0) ((w1.setCell ⟨w.heap.size, 0, none⟩ (.slice none 0 0)).setCell ⟨w.heap.size + 1, 0, none⟩ (.bool false)) := rfl; generalize (w1.setCell ⟨w.heap.size, 0, none⟩ (.slice none 0 0)).setCell ⟨w.heap.size + 1, 0, none⟩ (.bool false) = w3 at *; rw [HD.out]; simp [Leaves, settle, results, Tryz.results15, go_sem, hc1, hc2]; exact ⟨HV, hB2⟩
  have e1 : decide ((q : Int) < (b.length : Int)) = false := decide_eq_false Td_; have e1' : decide (q < b.length) = false := decide_eq_false hlt; have HRT := aM_ (wk_ A6 c6 l w1 (Kd.R_reads' hv').2.2 (Kd.R_reads' hv').2.1 HOL.out)
  cases hrt : af_ l with
  | false =>
   rw [hrt] at HRT; have HD : Az (decP b = none) := ⟨by unfold decP; rw [hp]; show (if q < b.length then none else if af_ l = true then some l else none) = none; rw [if_neg hlt, hrt]; rfl⟩; clear hv hv' hr1 hk1 hp hlt hrt hp0 hq0 hpf hqf
   go_wp2_with fail
   refine HRT.out.mono ?_; rintro e w2 ⟨rfl, hB⟩; replace HPW := aM_ (la_ HPW.out hB); replace HQW := aM_ (la_ HQW.out hB); replace HBW : Az (Below w.heap.size w w2) := ⟨da_ HBW.out hB⟩; have hp0 := ba_ HPW.out 0; have hq0 := ba_ HQW.out 0; have hpf := ha_ HPW.out 0; have hqf := ha_ HQW.out 0; clear hB HRT c1
   go_wp2_with fail
   refine leaves_cons (f := 36) (args := #[.pointer (some ⟨w.heap.size, 0, none⟩), .pointer (some ⟨w.heap.size + 1, 0, none⟩)]) Tt_ (by simp [go_sem]) ?_; refine (ci_ ⟨w.heap.size, 0, none⟩ ⟨w.heap.size + 1, 0, none⟩ _).mono ?_; rintro e u' w'' ⟨rfl, rfl, rfl⟩; have hP1 := qa_ HPW.out 0 (.slice none 0 0); have hQ1 : (w2.setCell ⟨w.heap.size, 0, none⟩ (.slice none 0 0)).heap[w.heap.size + 1]? = some (.cells #[.bool false] 4 (0, 0)) := (heap_setCell_other w2 ⟨w.heap.size, 0, none⟩ _ _ Wv_).trans HQW.out
   have hc1 : ((w2.setCell ⟨w.heap.size, 0, none⟩ (.slice none 0 0)).setCell ⟨w.heap.size + 1, 0, none⟩ (.bool false)).cell? ⟨w.heap.size, 0, none⟩ = some (.slice none 0 0) := by
    have := (heap_setCell_other (w2.setCell ⟨w.heap.size, 0, none⟩ (.slice none 0 0)) ⟨w.heap.size + 1, 0, none⟩ w.heap.size (.bool false) Wm_).trans hP1; exact ba_ this 0
   have hc2 : ((w2.setCell ⟨w.heap.size, 0, none⟩ (.slice none 0 0)).setCell ⟨w.heap.size + 1, 0, none⟩ (.bool false)).cell? ⟨w.heap.size + 1, 0, none⟩ = some (.bool false) := ba_ (qa_ hQ1 0 (.bool false)) 0; have hB2 : Below w.heap.size w ((w2.setCell ⟨w.heap.size, 0, none⟩ (.slice none 0 0)).setCell ⟨w.heap.size + 1, 0, none⟩ (.bool false)) := Below.setCell (p := ⟨w.heap.size + 1, 0, none⟩) (Below.setCell (p := ⟨w.heap.size, 0, none⟩) HBW.out (Nat.le_refl _) _) Ww_ _; have HV : VDec w none (.slice none 0 0) ((w2.setCell ⟨w.heap.size, 0, none⟩ (.slice none 0 0)).setCell ⟨w.heap.size + 1, 0, none⟩ (.bool false)) := rfl; generalize (w2.setCell ⟨w.heap.size, 0, none⟩ (.slice none 0 0)).setCell ⟨w.heap.size + 1, 0, none⟩ (.bool false) = w3 at *; rw [HD.out]; simp [Leaves, settle, results, Tryz.results15, go_sem, hc1, hc2]
   exact ⟨HV, hB2⟩
  | true =>
   rw [hrt] at HRT; have HD : Az (decP b = some l) := ⟨by unfold decP; rw [hp]; show (if q < b.length then none else if af_ l = true then some l else none) = some l; rw [if_neg hlt, hrt]; rfl⟩; clear hv hv' hr1 hk1 hp hlt hrt hp0 hq0 hpf hqf
   go_wp2_with fail
   refine HRT.out.mono ?_; rintro e w2 ⟨rfl, hB⟩; replace HPW := aM_ (la_ HPW.out hB); replace HQW := aM_ (la_ HQW.out hB); replace HBW : Az (Below w.heap.size w w2) := ⟨da_ HBW.out hB⟩; have HR2 := aM_ (Kd.R_below HR1.out hB); have hp0 := ba_ HPW.out 0; have hq0 := ba_ HQW.out 0; have hpf := ha_ HPW.out 0; have hqf := ha_ HQW.out 0; clear hB HRT c1
   go_wp2_with fail
   refine leaves_cons (f := 36) (args := #[.pointer (some ⟨w.heap.size, 0, none⟩), .pointer (some ⟨w.heap.size + 1, 0, none⟩)]) Tt_ (by simp [go_sem]) ?_; refine (ci_ ⟨w.heap.size, 0, none⟩ ⟨w.heap.size + 1, 0, none⟩ _).mono ?_; rintro e u' w'' ⟨rfl, rfl, rfl⟩; have hP1 := qa_ HPW.out 0 (.slice A6 l.length c6); have hQ1 : (w2.setCell ⟨w.heap.size, 0, none⟩ (.slice A6 l.length c6)).heap[w.heap.size + 1]? = some (.cells #[.bool false] 4 (0, 0)) := (heap_setCell_other w2 ⟨w.heap.size, 0, none⟩ _ _ Wv_).trans HQW.out
   have hc1 : ((w2.setCell ⟨w.heap.size, 0, none⟩ (.slice A6 l.length c6)).setCell ⟨w.heap.size + 1, 0, none⟩ (.bool true)).cell? ⟨w.heap.size, 0, none⟩ = some (.slice A6 l.length c6) := by
    have := (heap_setCell_other (w2.setCell ⟨w.heap.size, 0, none⟩ (.slice A6 l.length c6)) ⟨w.heap.size + 1, 0, none⟩ w.heap.size (.bool true) Wm_).trans hP1; exact ba_ this 0
   have hc2 : ((w2.setCell ⟨w.heap.size, 0, none⟩ (.slice A6 l.length c6)).setCell ⟨w.heap.size + 1, 0, none⟩ (.bool true)).cell? ⟨w.heap.size + 1, 0, none⟩ = some (.bool true) := ba_ (qa_ hQ1 0 (.bool true)) 0; have hB2 : Below w.heap.size w ((w2.setCell ⟨w.heap.size, 0, none⟩ (.slice A6 l.length c6)).setCell ⟨w.heap.size + 1, 0, none⟩ (.bool true)) := Below.setCell (p := ⟨w.heap.size + 1, 0, none⟩) (Below.setCell (p := ⟨w.heap.size, 0, none⟩) HBW.out (Nat.le_refl _) _) Ww_ _; have HV : VDec w (some l) (.slice A6 l.length c6) ((w2.setCell ⟨w.heap.size, 0, none⟩ (.slice A6 l.length c6)).setCell ⟨w.heap.size + 1, 0, none⟩ (.bool true)) := Kd.R_mono (Kd.R_far (Kd.R_far HR2.out (p := ⟨w.heap.size, 0, none⟩) (fun k hk => by have := HZ3.out; show k ≠ w.heap.size; omega) _) (p := ⟨w.heap.size + 1, 0, none⟩) (fun k hk => by have := HZ3.out; show k ≠ w.heap.size + 1; omega) _) (fun k hk => by have := HZ3.out; omega); generalize (w2.setCell ⟨w.heap.size, 0, none⟩ (.slice A6 l.length c6)).setCell ⟨w.heap.size + 1, 0, none⟩ (.bool true) = w3 at *; rw [HD.out]; simp [Leaves, settle, results, Tryz.results15, go_sem, hc1, hc2]; exact ⟨HV, hB2⟩
theorem ri_ (A : Option Addr) (c : Nat) (l : List S44) (id : BA) (w : World) (hr : Kd.C k44 w A l.length l) (hc : l.length ≤ c) (hi : xc_ (hitL id) l < 0) :
  Calls Tryz.prog 23 #[.slice A l.length c, .string id] w fun e w' => e = .returned (.tuple #[.agg #[.string ⟨#[]⟩, .int .i64 0, .int .i64 0, .slice none 0 0, .slice none 0 0, .slice none 0 0], .bool false]) ∧ Below w.heap.size w w' := by
 have hmf : ∀ (fn : Fn) (first cap : Array Value) (w : World), (Instr.makeFunc fn first cap).run Tryz.prog w = .ok (.func fn first cap) w := fun _ _ _ _ => rfl
 have HB2 : Az (Below w.heap.size w ((w.alloc (.cells #[.string id] 9)).alloc (.cells #[.string ⟨#[]⟩, .int .i64 0, .int .i64 0, .slice none 0 0, .slice none 0 0, .slice none 0 0] 44))) := ⟨aa_ (aa_ (Below.refl _ _) _) _⟩
 have HP2 : Az (((w.alloc (.cells #[.string id] 9)).alloc (.cells #[.string ⟨#[]⟩, .int .i64 0, .int .i64 0, .slice none 0 0, .slice none 0 0, .slice none 0 0] 44)).heap[w.heap.size]? = some (.cells #[.string id] 9 (0, 0))) := ⟨la_ (oa_ w _) (aa_ (Below.refl _ _) _)⟩
 have HS2 : Az (((w.alloc (.cells #[.string id] 9)).alloc (.cells #[.string ⟨#[]⟩, .int .i64 0, .int .i64 0, .slice none 0 0, .slice none 0 0, .slice none 0 0] 44)).heap[w.heap.size + 1]? = some (.cells #[.string ⟨#[]⟩, .int .i64 0, .int .i64 0, .slice none 0 0, .slice none 0 0, .slice none 0 0] 44 (0, 0))) := ⟨by have := oa_ (w.alloc (.cells #[.string id] 9)) (.cells #[.string ⟨#[]⟩, .int .i64 0, .int .i64 0, .slice none 0 0, .slice none 0 0, .slice none 0 0] 44); simpa using this⟩
 have HIX := aM_ (ug_ (.func (.func 57) #[] #[.pointer (some ⟨w.heap.size, 0, none⟩)]) A c l (hitL id) _ (Kd.C_below hr HB2.out) hc (wh_ w.heap.size id _ (ba_ HP2.out 0)))
 generalize xc_ (hitL id) l = q at *
 have hnk : decide (q < 0) = true := decide_eq_true hi
 have hu1 := Tryz.underlying44
 clear hr hc hi
 go_enter Tryz.func23, Tryz.ntmps23
 go_wp2_with fail
 generalize (w.alloc (.cells #[.string id] 9)).alloc (.cells #[.string ⟨#[]⟩, .int .i64 0, .int .i64 0, .slice none 0 0, .slice none 0 0, .slice none 0 0] 44) = W2 at *
 refine HIX.out.mono ?_
 rintro e W3 ⟨rfl, hB⟩
 have HS3 := aM_ (la_ HS2.out hB)
 have HB3 : Az (Below w.heap.size w W3) := ⟨da_ HB2.out hB⟩
 clear hB HIX
 have hb0 := ba_ HS3.out 0
 have hf0 := ha_ HS3.out 0
 have hb1 := ba_ HS3.out 1
 have hf1 := ha_ HS3.out 1
 have hb2 := ba_ HS3.out 2
 have hf2 := ha_ HS3.out 2
 have hb3 := ba_ HS3.out 3
 have hf3 := ha_ HS3.out 3
 have hb4 := ba_ HS3.out 4
 have hf4 := ha_ HS3.out 4
 have hb5 := ba_ HS3.out 5
 have hf5 := ha_ HS3.out 5
 go_wp2
 have hb7 : ((((((W3.setCell ⟨w.heap.size + 1, 0, none⟩ (.string ⟨#[]⟩)).setCell ⟨w.heap.size + 1, 1, none⟩ (.int .i64 0)).setCell ⟨w.heap.size + 1, 2, none⟩ (.int .i64 0)).setCell ⟨w.heap.size + 1, 3, none⟩ (.slice none 0 0)).setCell ⟨w.heap.size + 1, 4, none⟩ (.slice none 0 0)).setCell ⟨w.heap.size + 1, 5, none⟩ (.slice none 0 0)).heap[w.heap.size + 1]? = some (.cells #[.string ⟨#[]⟩, .int .i64 0, .int .i64 0, .slice none 0 0, .slice none 0 0, .slice none 0 0] 44 (0, 0)) := by simpa using (qa_ (qa_ (qa_ (qa_ (qa_ (qa_ HS3.out 0 (.string ⟨#[]⟩)) 1 (.int .i64 0)) 2 (.int .i64 0)) 3 (.slice none 0 0)) 4 (.slice none 0 0)) 5 (.slice none 0 0))
 refine bodyPost_ret (hh_ rfl _ _ (w.heap.size + 1) 44 #[.string ⟨#[]⟩, .int .i64 0, .int .i64 0, .slice none 0 0, .slice none 0 0, .slice none 0 0] (0, 0) _ rfl hb7 Tryz.underlying44 rfl Ti_) rfl ?_
 exact ⟨rfl, (Below.setCell (p := ⟨w.heap.size + 1, 5, none⟩) (Below.setCell (p := ⟨w.heap.size + 1, 4, none⟩) (Below.setCell (p := ⟨w.heap.size + 1, 3, none⟩) (Below.setCell (p := ⟨w.heap.size + 1, 2, none⟩) (Below.setCell (p := ⟨w.heap.size + 1, 1, none⟩) (Below.setCell (p := ⟨w.heap.size + 1, 0, none⟩) HB3.out (Nat.le_succ _) (.string ⟨#[]⟩)) (Nat.le_succ _) (.int .i64 0)) (Nat.le_succ _) (.int .i64 0)) (Nat.le_succ _) (.slice none 0 0)) (Nat.le_succ _) (.slice none 0 0)) (Nat.le_succ _) (.slice none 0 0))⟩
theorem idxOf_lt {α : Type} (p : α → Bool) (l : List α) (k : Nat) (h : xc_ p l = (k : Int)) : k < l.length ∧ True := by
 unfold xc_ at h
 cases hf : l.findIdx? p with
 | none => rw [hf] at h; exact absurd h Tt_
 | some i =>
  rw [hf] at h; have hi : i = k := by exact Int.ofNat.inj h
  subst hi; rw [List.findIdx?_eq_some_iff_getElem] at hf; exact ⟨hf.1, trivial⟩
theorem jo_ {α : Type} (p : α → Bool) (l : List α) (h : ¬ xc_ p l < 0) : ∃ k : Nat, xc_ p l = (k : Int) ∧ k < l.length := by
 refine ⟨(xc_ p l).toNat, ?_⟩
 have : xc_ p l = ((xc_ p l).toNat : Int) := by omega
 exact ⟨this, (idxOf_lt p l _ this).1⟩
theorem oi_ {l : List S44} (h : ej_ l) : ∀ (n : Nat) (a : Int), vf_ l n a [] = []
 | 0, _ => rfl
 | n + 1, a => by
  rw [vf_]
  split
  ·rename_i hw
   have hr2 : 0 ≤ a ∧ a ≤ (l.length : Int) - 1 := by
    unfold ib_ at hw
    simpa using hw
   obtain ⟨k, rfl⟩ : ∃ k : Nat, a = (k : Int) := ⟨a.toNat, Td_⟩; have hk : k < l.length := by omega
   have hy : pa_ l (k : Int) = l[k] := by
    show l.getD (k : Int).toNat _ = _; rw [Int.toNat_natCast, List.getD_eq_getElem?_getD, List.getElem?_eq_getElem hk]; rfl
   rw [hy, (h _ (List.getElem_mem hk)).2, List.nil_append]; exact oi_ h n _
  rfl
def okRes (l : List S44) : Prop := ej_ l ∧ l.length ≤ 100 ∧ ∀ x ∈ l, x.f3.length ≤ 5
def resP (l : List S44) (id : BA) : ByteArray × Int × Int × List S46 × List S56 × List S52 × Bool :=
 if xc_ (hitL id) l < 0 then (⟨#[]⟩, 0, 0, [], [], [], false) else (id, (pa_ l (xc_ (hitL id) l)).f1, (pa_ l (xc_ (hitL id) l)).f2, lexP l (xc_ (hitL id) l).toNat, [], [], true)
def gp_ (l : List S44) : Bool := (l.all fun x => x.f4.isEmpty && x.f5.isEmpty && decide (x.f3.length ≤ 5)) && decide (l.length ≤ 100)
theorem okRes_of {l : List S44} (h : gp_ l = true) : okRes l := by
 unfold gp_ at h
 simp only [Bool.and_eq_true, decide_eq_true_eq] at h
 refine ⟨fun x hx => ?_, h.2, fun x hx => ?_⟩
 ·have := List.all_eq_true.1 h.1 x hx
  simp only [Bool.and_eq_true, List.isEmpty_iff] at this; exact this.1
 have := List.all_eq_true.1 h.1 x hx
 simp only [Bool.and_eq_true, decide_eq_true_eq] at this
 exact this.2
noncomputable def blob_Resolve.f (l : List S44) (id : BA) : Option (ByteArray × Int × Int × List S46 × List S56 × List S52 × Bool) := if gp_ l = true then some (resP l id) else none
theorem blob_Resolve.calls (A0 : Option Addr) (c0 : Nat) (l0 : List S44) (id : BA) (r0 : BA) (r1 r2 : Int) (r3 : List S46) (r4 : List S56) (r5 : List S52) (r6 : Bool) (w : World) (hr0 : Kd.C k44 w A0 l0.length l0) (hc0 : l0.length ≤ c0) (h : blob_Resolve.f l0 id = some (r0, r1, r2, r3, r4, r5, r6)) :
  Calls Tryz.prog 23 #[.slice A0 l0.length c0, .string id] w fun e w' => ∃ v3 v4 v5, e = .returned (.tuple #[.agg #[.string r0, .int .i64 r1, .int .i64 r2, v3, v4, v5], .bool r6]) ∧ Kd.R k46 46 w' w.heap.size (fun _ => True) v3 r3 ∧ Kd.S k56 56 w' w.heap.size (fun _ => True) v4 r4 ∧ Kd.S k52 52 w' w.heap.size (fun _ => True) v5 r5 ∧ Below w.heap.size w w' := by
 unfold blob_Resolve.f at h
 by_cases hob : gp_ l0 = true
 ·rw [if_pos hob] at h
  have ho := okRes_of hob; have h := Option.some.inj h; unfold resP at h
  by_cases hi : xc_ (hitL id) l0 < 0
  (focus (rw [if_pos hi] at h; simp only [Prod.mk.injEq] at h; obtain ⟨rfl, rfl, rfl, rfl, rfl, rfl, rfl⟩ := h; refine (ri_ A0 c0 l0 id w hr0 hc0 hi).mono ?_; rintro e w' ⟨rfl, hb⟩; exact ⟨_, _, _, rfl, Kd.R_nil _ _ _ _ _, Kd.S_nil _ _ _ _ _, Kd.S_nil _ _ _ _ _, hb⟩)); rw [if_neg hi] at h; obtain ⟨k, hk, hlt⟩ := jo_ _ _ hi; rw [hk] at h; simp only [Prod.mk.injEq, Int.toNat_natCast] at h; obtain ⟨rfl, rfl, rfl, rfl, rfl, rfl, rfl⟩ := h; have hR : jd_ l0 k = [] := qf_ ho.1 _ _; have hS : styP l0 k = [] := oi_ ho.1 _ _; have hA : am_ l0 := ⟨ho.2.1, fun x hx => ⟨by have := ho.2.2 x hx; omega, by rw [(ho.1 x hx).1]; exact ⟨Tt_, fun r hr => by cases hr⟩, by rw [(ho.1 x hx).2]; exact ⟨Tt_, fun r hr => by cases hr⟩⟩⟩; refine (rg_ A0 c0 l0 id k w hr0 hc0 hA hk hlt).mono ?_; rintro e w' ⟨v3, v4, v5, rfl, h3, h4, h5, hb⟩; rw [hR] at h4; rw [hS] at h5; exact ⟨v3, v4, v5, rfl, Kd.R_mono h3 (fun _ _ => trivial), Kd.S_of_none (Kd.R_mono h4 (fun _ _ => trivial)), Kd.S_of_none (Kd.R_mono h5 (fun _ _ => trivial)), hb⟩
 rw [if_neg hob] at h
 cases h
noncomputable def en5 : List S44 := [⟨⟨#[101, 110]⟩, -1, 0, [⟨⟨#[109, 97, 121]⟩, 1, 5⟩], [], []⟩]
theorem li_ : (enc8 en5).length = 85 := by decide +kernel
theorem pv_ : ej_ en5 := pu_ (by decide +kernel)
theorem oo_ : af_ en5 = true := by
 rw [← xr_ pv_]
 decide +kernel
theorem hr_ : hb_ (pLoc (enc8 en5)) (enc8 en5) 0 = some (en5, 85) := by kernel_rfl
theorem co_ : hb_ (pLoc []) [] 0 = none := by kernel_rfl
theorem en5_dec : decP (enc8 en5) = some en5 := by
 unfold decP
 rw [hr_]
 show (if 85 < (enc8 en5).length then none else if af_ en5 = true then some en5 else none) = some en5
 rw [li_, oo_]
 rfl
theorem nil5_dec : decP [] = none := by
 unfold decP
 rw [co_]
theorem en5_hit : resP en5 ⟨#[101, 110]⟩ = (⟨#[101, 110]⟩, -1, 0, [⟨⟨#[109, 97, 121]⟩, 1, 5⟩], [], [], true) := by kernel_rfl
theorem en5_miss : resP en5 ⟨#[100, 101]⟩ = (⟨#[]⟩, 0, 0, [], [], [], false) := by kernel_rfl
theorem en5_ok : hp_ en5 := vu_ (by decide +kernel)
theorem en5_same : pf_ en5 en5 = true := by unfold pf_; rw [beq_self_eq_true]
theorem C_one {α : Type} (d : Kd α) {W : World} {g t : Nat} {cs : List Value} {x : α} (hb : W.heap[g]? = some (.cells cs.toArray t (0, 0))) (hK : d.K W x cs) (hsz : cs.length = d.sz) : d.C W (some ⟨g, 0, none⟩) 1 [x] :=
 ⟨rfl, Td_, fun _ => ⟨_, rfl, fun j p hj => by
  have hj0 : j = 0 := by
   cases j with
   | zero => rfl
   | succ j => simp at hj
  subst hj0; have hp : x = p := by simpa using hj
  subst hp; refine ⟨cs, hsz, hK, fun i u hi => ?_⟩; have h1 := ba_ hb i; rw [Nat.zero_mul, Nat.zero_add, ro_]; rw [h1]
  simpa using hi⟩⟩
theorem zq_ (w : World) : Calls Tryz.prog 11 #[] w fun e w' => e = .returned (.bool true) ∧ Below w.heap.size w w' := by
 have HD0 := aM_ (zj_ none 0 [] w ⟨rfl, Tt_, fun h => absurd h Tt_⟩ (Nat.le_refl _) Tt_ (fun l q h => by rw [co_] at h; cases h))
 rw [nil5_dec] at HD0
 go_enter Tryz.func11, Tryz.ntmps11
 go_wp2_with fail
 refine HD0.out.mono ?_
 rintro e w1 ⟨v0, rfl, hv0, hB1⟩
 have hv1 : v0 = .slice none 0 0 := hv0
 subst hv1
 have HB1 := aM_ hB1
 clear hB1 hv0 HD0
 go_wp2_with fail
 have HX : Az ((w1.alloc (.cells #[.string ⟨#[109, 97, 121]⟩, .int .i64 1, .int .i64 5] 46)).heap[w1.heap.size]? = some (.cells #[.string ⟨#[109, 97, 121]⟩, .int .i64 1, .int .i64 5] 46 (0, 0))) := ⟨oa_ w1 _⟩
 have HCX : Az (Kd.C k46 (w1.alloc (.cells #[.string ⟨#[109, 97, 121]⟩, .int .i64 1, .int .i64 5] 46)) (some ⟨w1.heap.size, 0, none⟩) 1 [⟨⟨#[109, 97, 121]⟩, 1, 5⟩]) := ⟨C_one k46 (cs := [.string ⟨#[109, 97, 121]⟩, .int .i64 1, .int .i64 5]) HX.out (k46_mk _ _) rfl⟩
 have HB3 : Az (Below w.heap.size w ((w1.alloc (.cells #[.string ⟨#[109, 97, 121]⟩, .int .i64 1, .int .i64 5] 46)).alloc (.cells #[.string ⟨#[101, 110]⟩, .int .i64 (-1), .int .i64 0, .slice (some ⟨w1.heap.size, 0, none⟩) 1 1, .slice none 0 0, .slice none 0 0] 44))) := ⟨da_ HB1.out (aa_ (aa_ (Below.refl _ _) _) _)⟩
 have HC3 : Az (Kd.C k44 ((w1.alloc (.cells #[.string ⟨#[109, 97, 121]⟩, .int .i64 1, .int .i64 5] 46)).alloc (.cells #[.string ⟨#[101, 110]⟩, .int .i64 (-1), .int .i64 0, .slice (some ⟨w1.heap.size, 0, none⟩) 1 1, .slice none 0 0, .slice none 0 0] 44)) (some ⟨w1.heap.size + 1, 0, none⟩) en5.length en5) := ⟨by
  have hn := oa_ (w1.alloc (.cells #[.string ⟨#[109, 97, 121]⟩, .int .i64 1, .int .i64 5] 46)) (.cells #[.string ⟨#[101, 110]⟩, .int .i64 (-1), .int .i64 0, .slice (some ⟨w1.heap.size, 0, none⟩) 1 1, .slice none 0 0, .slice none 0 0] 44); rw [show (w1.alloc (.cells #[.string ⟨#[109, 97, 121]⟩, .int .i64 1, .int .i64 5] 46)).heap.size = w1.heap.size + 1 by simp] at hn
  exact C_one k44 (cs := [.string ⟨#[101, 110]⟩, .int .i64 (-1), .int .i64 0, .slice (some ⟨w1.heap.size, 0, none⟩) 1 1, .slice none 0 0, .slice none 0 0]) hn (lm_ _ (⟨⟨#[101, 110]⟩, -1, 0, [⟨⟨#[109, 97, 121]⟩, 1, 5⟩], [], []⟩ : S44) (Nat.le_refl _) (Kd.C_alloc HCX.out _) (Nat.le_refl _) (Kd.C_nil _ _) (Nat.le_refl _) (Kd.C_nil _ _)) rfl⟩
 have HENC : Az (Calls Tryz.prog 14 #[.slice (some ⟨w1.heap.size + 1, 0, none⟩) 1 1] ((w1.alloc (.cells #[.string ⟨#[109, 97, 121]⟩, .int .i64 1, .int .i64 5] 46)).alloc (.cells #[.string ⟨#[101, 110]⟩, .int .i64 (-1), .int .i64 0, .slice (some ⟨w1.heap.size, 0, none⟩) 1 1, .slice none 0 0, .slice none 0 0] 44)) fun e w' => ∃ v : Value, e = .returned v ∧ Kd.R (Kd.int .u8) 5 w' ((w1.alloc (.cells #[.string ⟨#[109, 97, 121]⟩, .int .i64 1, .int .i64 5] 46)).alloc (.cells #[.string ⟨#[101, 110]⟩, .int .i64 (-1), .int .i64 0, .slice (some ⟨w1.heap.size, 0, none⟩) 1 1, .slice none 0 0, .slice none 0 0] 44)).heap.size (fun _ => True) v (enc8 en5) ∧ Below ((w1.alloc (.cells #[.string ⟨#[109, 97, 121]⟩, .int .i64 1, .int .i64 5] 46)).alloc (.cells #[.string ⟨#[101, 110]⟩, .int .i64 (-1), .int .i64 0, .slice (some ⟨w1.heap.size, 0, none⟩) 1 1, .slice none 0 0, .slice none 0 0] 44)).heap.size ((w1.alloc (.cells #[.string ⟨#[109, 97, 121]⟩, .int .i64 1, .int .i64 5] 46)).alloc (.cells #[.string ⟨#[101, 110]⟩, .int .i64 (-1), .int .i64 0, .slice (some ⟨w1.heap.size, 0, none⟩) 1 1, .slice none 0 0, .slice none 0 0] 44)) w') := ⟨np_ _ 1 en5 _ HC3.out (Nat.le_refl _) (by rw [li_]; omega)⟩
 have HDEC : Az (∀ (S : Option Addr) (k : Nat) (W : World), Kd.C (Kd.int .u8) W S (enc8 en5).length (enc8 en5) → (enc8 en5).length ≤ k → Calls Tryz.prog 15 #[.slice S (enc8 en5).length k] W fun e w' => ∃ v : Value, e = .returned (.tuple #[v, .bool true]) ∧ Kd.R k44 44 w' W.heap.size (fun k => W.heap.size ≤ k) v en5 ∧ Below W.heap.size W w') := ⟨fun S k W h1 h2 => by
  have h := zj_ S k (enc8 en5) W h1 h2 (by rw [li_]; omega) (fun l q hp => by rw [hr_] at hp; cases hp; exact en5_ok); rw [en5_dec] at h
  exact h⟩
 have HRES : Az (∀ (W : World), Below ((w1.alloc (.cells #[.string ⟨#[109, 97, 121]⟩, .int .i64 1, .int .i64 5] 46)).alloc (.cells #[.string ⟨#[101, 110]⟩, .int .i64 (-1), .int .i64 0, .slice (some ⟨w1.heap.size, 0, none⟩) 1 1, .slice none 0 0, .slice none 0 0] 44)).heap.size ((w1.alloc (.cells #[.string ⟨#[109, 97, 121]⟩, .int .i64 1, .int .i64 5] 46)).alloc (.cells #[.string ⟨#[101, 110]⟩, .int .i64 (-1), .int .i64 0, .slice (some ⟨w1.heap.size, 0, none⟩) 1 1, .slice none 0 0, .slice none 0 0] 44)) W → Calls Tryz.prog 23 #[.slice (some ⟨w1.heap.size + 1, 0, none⟩) 1 1, .string ⟨#[101, 110]⟩] W fun e w' => ∃ v3 v4 v5, e = .returned (.tuple #[.agg #[.string ⟨#[101, 110]⟩, .int .i64 (-1), .int .i64 0, v3, v4, v5], .bool true]) ∧ Kd.R k46 46 w' W.heap.size (fun _ => True) v3 [⟨⟨#[109, 97, 121]⟩, 1, 5⟩] ∧ Kd.S k56 56 w' W.heap.size (fun _ => True) v4 [] ∧ Kd.S k52 52 w' W.heap.size (fun _ => True) v5 [] ∧ Below W.heap.size W w') := ⟨fun W hB => blob_Resolve.calls _ 1 en5 _ _ _ _ _ _ _ _ W (Kd.C_below HC3.out hB) (Nat.le_refl _) (by unfold blob_Resolve.f; rw [if_pos (by decide +kernel), en5_hit])⟩
 have HMIS : Az (∀ (W : World), Below ((w1.alloc (.cells #[.string ⟨#[109, 97, 121]⟩, .int .i64 1, .int .i64 5] 46)).alloc (.cells #[.string ⟨#[101, 110]⟩, .int .i64 (-1), .int .i64 0, .slice (some ⟨w1.heap.size, 0, none⟩) 1 1, .slice none 0 0, .slice none 0 0] 44)).heap.size ((w1.alloc (.cells #[.string ⟨#[109, 97, 121]⟩, .int .i64 1, .int .i64 5] 46)).alloc (.cells #[.string ⟨#[101, 110]⟩, .int .i64 (-1), .int .i64 0, .slice (some ⟨w1.heap.size, 0, none⟩) 1 1, .slice none 0 0, .slice none 0 0] 44)) W → Calls Tryz.prog 23 #[.slice (some ⟨w1.heap.size + 1, 0, none⟩) 1 1, .string ⟨#[100, 101]⟩] W fun e w' => ∃ v3 v4 v5, e = .returned (.tuple #[.agg #[.string ⟨#[]⟩, .int .i64 0, .int .i64 0, v3, v4, v5], .bool false]) ∧ Kd.R k46 46 w' W.heap.size (fun _ => True) v3 [] ∧ Kd.S k56 56 w' W.heap.size (fun _ => True) v4 [] ∧ Kd.S k52 52 w' W.heap.size (fun _ => True) v5 [] ∧ Below W.heap.size W w') := ⟨fun W hB => blob_Resolve.calls _ 1 en5 _ _ _ _ _ _ _ _ W (Kd.C_below HC3.out hB) (Nat.le_refl _) (by unfold blob_Resolve.f; rw [if_pos (by decide +kernel), en5_miss])⟩
 have HRT : Az (∀ (W : World), Below ((w1.alloc (.cells #[.string ⟨#[109, 97, 121]⟩, .int .i64 1, .int .i64 5] 46)).alloc (.cells #[.string ⟨#[101, 110]⟩, .int .i64 (-1), .int .i64 0, .slice (some ⟨w1.heap.size, 0, none⟩) 1 1, .slice none 0 0, .slice none 0 0] 44)).heap.size ((w1.alloc (.cells #[.string ⟨#[109, 97, 121]⟩, .int .i64 1, .int .i64 5] 46)).alloc (.cells #[.string ⟨#[101, 110]⟩, .int .i64 (-1), .int .i64 0, .slice (some ⟨w1.heap.size, 0, none⟩) 1 1, .slice none 0 0, .slice none 0 0] 44)) W → Calls Tryz.prog 16 #[.slice (some ⟨w1.heap.size + 1, 0, none⟩) 1 1] W fun e w' => e = .returned (.bool true) ∧ Below W.heap.size W w') := ⟨fun W hB => by
  have h := wk_ (some ⟨w1.heap.size + 1, 0, none⟩) 1 en5 W (Kd.C_below HC3.out hB) (Nat.le_refl _) en5_ok; rw [oo_] at h
  exact h⟩
 have HSM : Az (∀ (S : Option Addr) (k : Nat) (W : World), Below ((w1.alloc (.cells #[.string ⟨#[109, 97, 121]⟩, .int .i64 1, .int .i64 5] 46)).alloc (.cells #[.string ⟨#[101, 110]⟩, .int .i64 (-1), .int .i64 0, .slice (some ⟨w1.heap.size, 0, none⟩) 1 1, .slice none 0 0, .slice none 0 0] 44)).heap.size ((w1.alloc (.cells #[.string ⟨#[109, 97, 121]⟩, .int .i64 1, .int .i64 5] 46)).alloc (.cells #[.string ⟨#[101, 110]⟩, .int .i64 (-1), .int .i64 0, .slice (some ⟨w1.heap.size, 0, none⟩) 1 1, .slice none 0 0, .slice none 0 0] 44)) W → Kd.C k44 W S en5.length en5 → en5.length ≤ k → Calls Tryz.prog 18 #[.slice (some ⟨w1.heap.size + 1, 0, none⟩) 1 1, .slice S 1 k] W fun e w' => e = .returned (.bool true) ∧ Below W.heap.size W w') := ⟨fun S k W hB h1 h2 => by
  have h := pt_ (some ⟨w1.heap.size + 1, 0, none⟩) S 1 k en5 en5 W (Kd.C_below HC3.out hB) (Nat.le_refl _) (by rw [li_]; omega) h1 h2 (by rw [li_]; omega); rw [en5_same] at h
  exact h⟩
 have HEL : Az ((enc8 en5).length = 85) := ⟨li_⟩
 generalize enc8 en5 = eb at *
 generalize (w1.alloc (.cells #[.string ⟨#[109, 97, 121]⟩, .int .i64 1, .int .i64 5] 46)).alloc (.cells #[.string ⟨#[101, 110]⟩, .int .i64 (-1), .int .i64 0, .slice (some ⟨w1.heap.size, 0, none⟩) 1 1, .slice none 0 0, .slice none 0 0] 44) = W3 at *
 generalize w1.heap.size + 1 = g at *
 clear HX HCX
 refine HENC.out.mono ?_
 rintro e w4 ⟨v4, rfl, hr4, hb4⟩
 obtain ⟨S4, k4, hs4⟩ := Kd.R_slice hr4
 subst hs4
 have HD := aM_ (HDEC.out S4 k4 w4 (Kd.R_reads' hr4).2.2 (Kd.R_reads' hr4).2.1)
 have HW4 := aM_ hb4
 clear hr4 hb4 HENC HDEC
 go_wp2_with fail
 refine HD.out.mono ?_
 rintro e w5 ⟨v5, rfl, hr5, hb5⟩
 obtain ⟨S5, k5, hs5⟩ := Kd.R_slice hr5
 have hs5' : v5 = .slice S5 1 k5 := hs5
 subst hs5'
 have HR5 := aM_ hr5
 have HW5 : Az (Below W3.heap.size W3 w5) := ⟨da_ HW4.out hb5⟩
 clear hr5 hb5 HD hs5
 go_wp2_with fail
 refine (HRES.out _ HW5.out).mono ?_
 rintro e w6 ⟨v3, v4, v5, rfl, h3, h4, h5, hb6⟩
 obtain ⟨A3, c3, hs3⟩ := Kd.R_slice h3
 have hs3' : v3 = .slice A3 1 c3 := hs3
 obtain ⟨A4, c4, hs4⟩ := Kd.R_slice (Kd.S_R h4)
 have hs4' : v4 = .slice A4 0 c4 := hs4
 obtain ⟨A5, c5, hs5⟩ := Kd.R_slice (Kd.S_R h5)
 have hs5' : v5 = .slice A5 0 c5 := hs5
 subst hs3' hs4' hs5'
 have HW6 : Az (Below W3.heap.size W3 w6) := ⟨da_ HW5.out hb6⟩
 have HR6 := aM_ (Kd.R_below HR5.out hb6)
 clear h3 h4 h5 hb6 hs3 hs4 hs5 HRES HR5 HW5
 go_wp2_with fail
 have HBK : Az ((w6.alloc (.cells #[.string ⟨#[101, 110]⟩, .int .i64 (-1), .int .i64 0, .slice A3 1 c3, .slice A4 0 c4, .slice A5 0 c5] 44)).heap[w6.heap.size]? = some (.cells #[.string ⟨#[101, 110]⟩, .int .i64 (-1), .int .i64 0, .slice A3 1 c3, .slice A4 0 c4, .slice A5 0 c5] 44 (0, 0))) := ⟨oa_ w6 _⟩
 have HW7 : Az (Below W3.heap.size W3 (w6.alloc (.cells #[.string ⟨#[101, 110]⟩, .int .i64 (-1), .int .i64 0, .slice A3 1 c3, .slice A4 0 c4, .slice A5 0 c5] 44))) := ⟨da_ HW6.out (aa_ (Below.refl _ _) _)⟩
 have HR7 := aM_ (Kd.R_alloc HR6.out (.cells #[.string ⟨#[101, 110]⟩, .int .i64 (-1), .int .i64 0, .slice A3 1 c3, .slice A4 0 c4, .slice A5 0 c5] 44))
 generalize w6.alloc (.cells #[.string ⟨#[101, 110]⟩, .int .i64 (-1), .int .i64 0, .slice A3 1 c3, .slice A4 0 c4, .slice A5 0 c5] 44) = w7 at *
 generalize w6.heap.size = g6 at *
 clear HR6 HW6
 refine (HMIS.out _ HW7.out).mono ?_
 rintro e w8 ⟨v3, v4, v5, rfl, h3, h4, h5, hb8⟩
 obtain ⟨B3, d3, hs3⟩ := Kd.R_slice h3
 have hs3' : v3 = .slice B3 0 d3 := hs3
 obtain ⟨B4, d4, hs4⟩ := Kd.R_slice (Kd.S_R h4)
 have hs4' : v4 = .slice B4 0 d4 := hs4
 obtain ⟨B5, d5, hs5⟩ := Kd.R_slice (Kd.S_R h5)
 have hs5' : v5 = .slice B5 0 d5 := hs5
 subst hs3' hs4' hs5'
 have HW8 : Az (Below W3.heap.size W3 w8) := ⟨da_ HW7.out hb8⟩
 have HR8 := aM_ (Kd.R_below HR7.out hb8)
 have HBK8 := aM_ (la_ HBK.out hb8)
 clear h3 h4 h5 hb8 hs3 hs4 hs5 HMIS HR7 HW7 HBK
 have HRC : Az (∀ o : Obj, Below W3.heap.size W3 (w8.alloc o) ∧ Kd.R k44 44 (w8.alloc o) w4.heap.size (fun k => w4.heap.size ≤ k) (.slice S5 1 k5) en5 ∧ (w8.alloc o).heap[g6]? = some (.cells #[.string ⟨#[101, 110]⟩, .int .i64 (-1), .int .i64 0, .slice A3 1 c3, .slice A4 0 c4, .slice A5 0 c5] 44 (0, 0))) := ⟨fun o => ⟨da_ HW8.out (aa_ (Below.refl _ _) _), Kd.R_alloc HR8.out o, la_ HBK8.out (aa_ (Below.refl _ _) _)⟩⟩
 clear HW8 HR8 HBK8
 go_wp2_with fail
 generalize hoo : Obj.cells _ 44 _ = oo
 obtain ⟨hw9, hr9, hg9⟩ := HRC.out oo
 generalize w8.alloc oo = w9 at *
 refine (HRT.out _ hw9).mono ?_
 rintro e w10 ⟨rfl, hb10⟩
 have HW10 : Az (Below W3.heap.size W3 w10) := ⟨da_ hw9 hb10⟩
 have hr10 := Kd.R_below hr9 hb10
 have HG10 := aM_ (la_ hg9 hb10)
 have HS10 := aM_ (HSM.out S5 k5 w10 HW10.out (Kd.R_reads' hr10).2.2 (Kd.R_reads' hr10).2.1)
 clear hw9 hr9 hg9 hb10 hr10 HRC HRT HSM hoo
 go_wp2_with fail
 refine HS10.out.mono ?_
 rintro e w11 ⟨rfl, hb11⟩
 have hc3 : w11.cell? ⟨g6, 3, none⟩ = some (.slice A3 1 c3) := ba_ (la_ HG10.out hb11) 3
 have HF : Az (Below w.heap.size w w11) := ⟨da_ HB3.out (da_ HW10.out hb11)⟩
 clear hb11 HS10
 go_wp2
 go_ret
 exact ⟨rfl, HF.out⟩
end Go.Proofs.YtiocgaekoeekgaaGreat.P
end
section
namespace Go.Proofs.YtiocgaekoeekgaaGreat.P
open Go.RowKit YtiocgaekoeekgaaGreatW.PrintWords YtiocgaekoeekgaaGreatW.PrintLast YtiocgaekoeekgaaGreatW.PrintMore
attribute [local go_sem] ub_ rb_ cc_ bc_ kb_ jb_ tb_ qb_   
set_option linter.unusedVariables false
set_option linter.unusedSimpArgs false
noncomputable def l5_within.f (a0 : Int) (a1 : Int) : Option (Int) := if a1 = 0 then (none) else (if (Int.tmod a0 a1) < 0 then (some (wrap64 ((Int.tmod a0 a1) + a1))) else (some (Int.tmod a0 a1)))
theorem l5_within.calls (a0 : Int) (a1 : Int) (r : Int) (w : World) (h : l5_within.f a0 a1 = some r) :
  Calls Tryz.prog 19 #[.int .i64 a0, .int .i64 a1] w fun e w' => e = .returned (.int .i64 r) ∧ Drawn0 w w' := by
 have H : (if a1 = 0 then (none) else (if (Int.tmod a0 a1) < 0 then (some (wrap64 ((Int.tmod a0 a1) + a1))) else (some (Int.tmod a0 a1)))) = some r := h
 clear h
 by_cases c3 : a1 = 0
 ·rw [if_pos c3] at H
  exact absurd H Tt_
 rw [if_neg c3] at H
 have c3b0 : (a1 == 0) = false := beq_eq_false_iff_ne.mpr c3
 have c3b1 : (a1 != 0) = true := bne_iff_ne.mpr c3
 by_cases c4 : (Int.tmod a0 a1) < 0
 ·rw [if_pos c4] at H
  have c4b0 := decide_eq_true c4; clear c4; obtain rfl := Option.some.inj H
  go_enter Tryz.func19, Tryz.ntmps19
  go_wp2
  go_ret
  exact ⟨Tc_, Tb_⟩
 rw [if_neg c4] at H
 have c4b0 := decide_eq_false c4
 clear c4
 obtain rfl := Option.some.inj H
 go_enter Tryz.func19, Tryz.ntmps19
 go_wp2
 go_ret
 exact ⟨Tc_, Tb_⟩
noncomputable def l5_words.f  : Option ((List (S46))) := some (([(⟨(⟨#[106, 97, 110]⟩ : BA), 1, 1⟩ : S46), (⟨(⟨#[102, 101, 98, 114, 117, 97, 114, 121]⟩ : BA), 1, 2⟩ : S46), (⟨(⟨#[109, 97, 121]⟩ : BA), 1, 5⟩ : S46), (⟨(⟨#[100, 101, 99]⟩ : BA), 1, 12⟩ : S46), (⟨(⟨#[109, 111, 110, 100, 97, 121]⟩ : BA), 2, 0⟩ : S46), (⟨(⟨#[102, 114, 105, 100, 97, 121]⟩ : BA), 2, 4⟩ : S46), (⟨(⟨#[100, 97, 121]⟩ : BA), 3, 1⟩ : S46), (⟨(⟨#[100, 97, 121, 115]⟩ : BA), 3, 1⟩ : S46), (⟨(⟨#[119, 101, 101, 107]⟩ : BA), 3, 2⟩ : S46), (⟨(⟨#[109, 111, 110, 116, 104, 115]⟩ : BA), 3, 3⟩ : S46), (⟨(⟨#[97, 103, 111]⟩ : BA), 4, (-1)⟩ : S46), (⟨(⟨#[104, 101, 110, 99, 101]⟩ : BA), 4, 1⟩ : S46), (⟨(⟨#[97, 109]⟩ : BA), 5, 0⟩ : S46), (⟨(⟨#[112, 109]⟩ : BA), 5, 1⟩ : S46), (⟨(⟨#[101, 117, 114]⟩ : BA), 6, 9782⟩ : S46), (⟨(⟨#[226, 130, 172]⟩ : BA), 6, 9782⟩ : S46), (⟨(⟨#[121, 101, 110]⟩ : BA), 6, 3920⟩ : S46), (⟨(⟨#[115]⟩ : BA), 7, 1⟩ : S46), (⟨(⟨#[109, 105, 110]⟩ : BA), 7, 60⟩ : S46), (⟨(⟨#[104]⟩ : BA), 7, 3600⟩ : S46), (⟨(⟨#[116, 111]⟩ : BA), 8, 0⟩ : S46), (⟨(⟨#[97]⟩ : BA), 9, 1⟩ : S46)] : List (S46)))
theorem l5_words.calls  (r : List (S46)) (w : World) (h : l5_words.f  = some r) :
  Calls Tryz.prog 71 #[] w fun e w' => ∃ v0_ : Value, e = .returned (v0_) ∧ Kd.R k46 46 w' w.heap.size (fun _ => True) v0_ r ∧ Below w.heap.size w w' := by
 have hu46 := Tryz.underlying46
 have HB := aM_ (Below.refl w.heap.size w)
 have H : (some (([(⟨(⟨#[106, 97, 110]⟩ : BA), 1, 1⟩ : S46), (⟨(⟨#[102, 101, 98, 114, 117, 97, 114, 121]⟩ : BA), 1, 2⟩ : S46), (⟨(⟨#[109, 97, 121]⟩ : BA), 1, 5⟩ : S46), (⟨(⟨#[100, 101, 99]⟩ : BA), 1, 12⟩ : S46), (⟨(⟨#[109, 111, 110, 100, 97, 121]⟩ : BA), 2, 0⟩ : S46), (⟨(⟨#[102, 114, 105, 100, 97, 121]⟩ : BA), 2, 4⟩ : S46), (⟨(⟨#[100, 97, 121]⟩ : BA), 3, 1⟩ : S46), (⟨(⟨#[100, 97, 121, 115]⟩ : BA), 3, 1⟩ : S46), (⟨(⟨#[119, 101, 101, 107]⟩ : BA), 3, 2⟩ : S46), (⟨(⟨#[109, 111, 110, 116, 104, 115]⟩ : BA), 3, 3⟩ : S46), (⟨(⟨#[97, 103, 111]⟩ : BA), 4, (-1)⟩ : S46), (⟨(⟨#[104, 101, 110, 99, 101]⟩ : BA), 4, 1⟩ : S46), (⟨(⟨#[97, 109]⟩ : BA), 5, 0⟩ : S46), (⟨(⟨#[112, 109]⟩ : BA), 5, 1⟩ : S46), (⟨(⟨#[101, 117, 114]⟩ : BA), 6, 9782⟩ : S46), (⟨(⟨#[226, 130, 172]⟩ : BA), 6, 9782⟩ : S46), (⟨(⟨#[121, 101, 110]⟩ : BA), 6, 3920⟩ : S46), (⟨(⟨#[115]⟩ : BA), 7, 1⟩ : S46), (⟨(⟨#[109, 105, 110]⟩ : BA), 7, 60⟩ : S46), (⟨(⟨#[104]⟩ : BA), 7, 3600⟩ : S46), (⟨(⟨#[116, 111]⟩ : BA), 8, 0⟩ : S46), (⟨(⟨#[97]⟩ : BA), 9, 1⟩ : S46)] : List (S46)))) = some r := h
 clear h
 obtain ⟨y259, hy259⟩ : ∃ y_ : List (S46), y_ = (([(⟨(⟨#[106, 97, 110]⟩ : BA), 1, 1⟩ : S46), (⟨(⟨#[102, 101, 98, 114, 117, 97, 114, 121]⟩ : BA), 1, 2⟩ : S46), (⟨(⟨#[109, 97, 121]⟩ : BA), 1, 5⟩ : S46), (⟨(⟨#[100, 101, 99]⟩ : BA), 1, 12⟩ : S46), (⟨(⟨#[109, 111, 110, 100, 97, 121]⟩ : BA), 2, 0⟩ : S46), (⟨(⟨#[102, 114, 105, 100, 97, 121]⟩ : BA), 2, 4⟩ : S46), (⟨(⟨#[100, 97, 121]⟩ : BA), 3, 1⟩ : S46), (⟨(⟨#[100, 97, 121, 115]⟩ : BA), 3, 1⟩ : S46), (⟨(⟨#[119, 101, 101, 107]⟩ : BA), 3, 2⟩ : S46), (⟨(⟨#[109, 111, 110, 116, 104, 115]⟩ : BA), 3, 3⟩ : S46), (⟨(⟨#[97, 103, 111]⟩ : BA), 4, (-1)⟩ : S46), (⟨(⟨#[104, 101, 110, 99, 101]⟩ : BA), 4, 1⟩ : S46), (⟨(⟨#[97, 109]⟩ : BA), 5, 0⟩ : S46), (⟨(⟨#[112, 109]⟩ : BA), 5, 1⟩ : S46), (⟨(⟨#[101, 117, 114]⟩ : BA), 6, 9782⟩ : S46), (⟨(⟨#[226, 130, 172]⟩ : BA), 6, 9782⟩ : S46), (⟨(⟨#[121, 101, 110]⟩ : BA), 6, 3920⟩ : S46), (⟨(⟨#[115]⟩ : BA), 7, 1⟩ : S46), (⟨(⟨#[109, 105, 110]⟩ : BA), 7, 60⟩ : S46), (⟨(⟨#[104]⟩ : BA), 7, 3600⟩ : S46), (⟨(⟨#[116, 111]⟩ : BA), 8, 0⟩ : S46), (⟨(⟨#[97]⟩ : BA), 9, 1⟩ : S46)] : List (S46))) := ⟨_, rfl⟩
 replace H : (some y259) = some r := by first | (rw [hy259]; with_reducible exact H) | (have H2_ := (Option.bind_some _ _).symm.trans H; rw [hy259]; with_reducible exact H2_) | (have H2_ := (Option.bind_some _ _).symm.trans H; with_reducible exact H2_) | with_reducible exact H | (rw [hy259]; exact H) | exact H
 have Ny259 := aM_ hy259
 clear hy259
 obtain rfl := Option.some.inj H
 go_enter Tryz.func71, Tryz.ntmps71
 go_wp2_with (first | ((with_reducible refine gd_ 23 ?_); refine Kd.R_lit k46 _ 46 rfl (N := 23) rfl (xs := ([(⟨(⟨#[106, 97, 110]⟩ : BA), 1, 1⟩ : S46), (⟨(⟨#[102, 101, 98, 114, 117, 97, 114, 121]⟩ : BA), 1, 2⟩ : S46), (⟨(⟨#[109, 97, 121]⟩ : BA), 1, 5⟩ : S46), (⟨(⟨#[100, 101, 99]⟩ : BA), 1, 12⟩ : S46), (⟨(⟨#[109, 111, 110, 100, 97, 121]⟩ : BA), 2, 0⟩ : S46), (⟨(⟨#[102, 114, 105, 100, 97, 121]⟩ : BA), 2, 4⟩ : S46), (⟨(⟨#[100, 97, 121]⟩ : BA), 3, 1⟩ : S46), (⟨(⟨#[100, 97, 121, 115]⟩ : BA), 3, 1⟩ : S46), (⟨(⟨#[119, 101, 101, 107]⟩ : BA), 3, 2⟩ : S46), (⟨(⟨#[109, 111, 110, 116, 104, 115]⟩ : BA), 3, 3⟩ : S46), (⟨(⟨#[97, 103, 111]⟩ : BA), 4, (-1)⟩ : S46), (⟨(⟨#[104, 101, 110, 99, 101]⟩ : BA), 4, 1⟩ : S46), (⟨(⟨#[97, 109]⟩ : BA), 5, 0⟩ : S46), (⟨(⟨#[112, 109]⟩ : BA), 5, 1⟩ : S46), (⟨(⟨#[101, 117, 114]⟩ : BA), 6, 9782⟩ : S46), (⟨(⟨#[226, 130, 172]⟩ : BA), 6, 9782⟩ : S46), (⟨(⟨#[121, 101, 110]⟩ : BA), 6, 3920⟩ : S46), (⟨(⟨#[115]⟩ : BA), 7, 1⟩ : S46), (⟨(⟨#[109, 105, 110]⟩ : BA), 7, 60⟩ : S46), (⟨(⟨#[104]⟩ : BA), 7, 3600⟩ : S46), (⟨(⟨#[116, 111]⟩ : BA), 8, 0⟩ : S46), (⟨(⟨#[97]⟩ : BA), 9, 1⟩ : S46)] : List (S46))) (inner := [.string (⟨#[106, 97, 110]⟩ : BA), .int .i64 1, .int .i64 1, .string (⟨#[102, 101, 98, 114, 117, 97, 114, 121]⟩ : BA), .int .i64 1, .int .i64 2, .string (⟨#[109, 97, 121]⟩ : BA), .int .i64 1, .int .i64 5, .string (⟨#[100, 101, 99]⟩ : BA), .int .i64 1, .int .i64 12, .string (⟨#[109, 111, 110, 100, 97, 121]⟩ : BA), .int .i64 2, .int .i64 0, .string (⟨#[102, 114, 105, 100, 97, 121]⟩ : BA), .int .i64 2, .int .i64 4, .string (⟨#[100, 97, 121]⟩ : BA), .int .i64 3, .int .i64 1, .string (⟨#[100, 97, 121, 115]⟩ : BA), .int .i64 3, .int .i64 1, .string (⟨#[119, 101, 101, 107]⟩ : BA), .int .i64 3, .int .i64 2, .string (⟨#[109, 111, 110, 116, 104, 115]⟩ : BA), .int .i64 3, .int .i64 3, .string (⟨#[97, 103, 111]⟩ : BA), .int .i64 4, .int .i64 (-1), .string (⟨#[104, 101, 110, 99, 101]⟩ : BA), .int .i64 4, .int .i64 1, .string (⟨#[97, 109]⟩ : BA), .int .i64 5, .int .i64 0, .string (⟨#[112, 109]⟩ : BA), .int .i64 5, .int .i64 1, .string (⟨#[101, 117, 114]⟩ : BA), .int .i64 6, .int .i64 9782, .string (⟨#[226, 130, 172]⟩ : BA), .int .i64 6, .int .i64 9782, .string (⟨#[121, 101, 110]⟩ : BA), .int .i64 6, .int .i64 3920, .string (⟨#[115]⟩ : BA), .int .i64 7, .int .i64 1, .string (⟨#[109, 105, 110]⟩ : BA), .int .i64 7, .int .i64 60, .string (⟨#[104]⟩ : BA), .int .i64 7, .int .i64 3600, .string (⟨#[116, 111]⟩ : BA), .int .i64 8, .int .i64 0, .string (⟨#[97]⟩ : BA), .int .i64 9, .int .i64 1]) (ok := fun _ => True) (okp := fun _ => True) Tx_ ?hp (fun _ hk => hk) trivial (Below.refl _ _) (Nat.le_refl _) Tt_ ?_; (case hp => exact (Reps.c3 (show Kd.M k46 _ _ _ (⟨(⟨#[106, 97, 110]⟩ : BA), 1, 1⟩ : S46) [.string (⟨#[106, 97, 110]⟩ : BA), .int .i64 1, .int .i64 1] from (mc_ _ _ _ (⟨(⟨#[106, 97, 110]⟩ : BA), 1, 1⟩ : S46) )) (Reps.c3 (show Kd.M k46 _ _ _ (⟨(⟨#[102, 101, 98, 114, 117, 97, 114, 121]⟩ : BA), 1, 2⟩ : S46) [.string (⟨#[102, 101, 98, 114, 117, 97, 114, 121]⟩ : BA), .int .i64 1, .int .i64 2] from (mc_ _ _ _ (⟨(⟨#[102, 101, 98, 114, 117, 97, 114, 121]⟩ : BA), 1, 2⟩ : S46) )) (Reps.c3 (show Kd.M k46 _ _ _ (⟨(⟨#[109, 97, 121]⟩ : BA), 1, 5⟩ : S46) [.string (⟨#[109, 97, 121]⟩ : BA), .int .i64 1, .int .i64 5] from (mc_ _ _ _ (⟨(⟨#[109, 97, 121]⟩ : BA), 1, 5⟩ : S46) )) (Reps.c3 (show Kd.M k46 _ _ _ (⟨(⟨#[100, 101, 99]⟩ : BA), 1, 12⟩ : S46) [.string (⟨#[100, 101, 99]⟩ : BA), .int .i64 1, .int .i64 12] from (mc_ _ _ _ (⟨(⟨#[100, 101, 99]⟩ : BA), 1, 12⟩ : S46) )) (Reps.c3 (show Kd.M k46 _ _ _ (⟨(⟨#[109, 111, 110, 100, 97, 121]⟩ : BA), 2, 0⟩ : S46) [.string (⟨#[109, 111, 110, 100, 97, 121]⟩ : BA), .int .i64 2, .int .i64 0] from (mc_ _ _ _ (⟨(⟨#[109, 111, 110, 100, 97, 121]⟩ : BA), 2, 0⟩ : S46) )) (Reps.c3 (show Kd.M k46 _ _ _ (⟨(⟨#[102, 114, 105, 100, 97, 121]⟩ : BA), 2, 4⟩ : S46) [.string (⟨#[102, 114, 105, 100, 97, 121]⟩ : BA), .int .i64 2, .int .i64 4] from (mc_ _ _ _ (⟨(⟨#[102, 114, 105, 100, 97, 121]⟩ : BA), 2, 4⟩ : S46) )) (Reps.c3 (show Kd.M k46 _ _ _ (⟨(⟨#[100, 97, 121]⟩ : BA), 3, 1⟩ : S46) [.string (⟨#[100, 97, 121]⟩ : BA), .int .i64 3, .int .i64 1] from (mc_ _ _ _ (⟨(⟨#[100, 97, 121]⟩ : BA), 3, 1⟩ : S46) )) (Reps.c3 (show Kd.M k46 _ _ _ (⟨(⟨#[100, 97, 121, 115]⟩ : BA), 3, 1⟩ : S46) [.string (⟨#[100, 97, 121, 115]⟩ : BA), .int .i64 3, .int .i64 1] from (mc_ _ _ _ (⟨(⟨#[100, 97, 121, 115]⟩ : BA), 3, 1⟩ : S46) )) (Reps.c3 (show Kd.M k46 _ _ _ (⟨(⟨#[119, 101, 101, 107]⟩ : BA), 3, 2⟩ : S46) [.string (⟨#[119, 101, 101, 107]⟩ : BA), .int .i64 3, .int .i64 2] from (mc_ _ _ _ (⟨(⟨#[119, 101, 101, 107]⟩ : BA), 3, 2⟩ : S46) )) (Reps.c3 (show Kd.M k46 _ _ _ (⟨(⟨#[109, 111, 110, 116, 104, 115]⟩ : BA), 3, 3⟩ : S46) [.string (⟨#[109, 111, 110, 116, 104, 115]⟩ : BA), .int .i64 3, .int .i64 3] from (mc_ _ _ _ (⟨(⟨#[109, 111, 110, 116, 104, 115]⟩ : BA), 3, 3⟩ : S46) )) (Reps.c3 (show Kd.M k46 _ _ _ (⟨(⟨#[97, 103, 111]⟩ : BA), 4, (-1)⟩ : S46) [.string (⟨#[97, 103, 111]⟩ : BA), .int .i64 4, .int .i64 (-1)] from (mc_ _ _ _ (⟨(⟨#[97, 103, 111]⟩ : BA), 4, (-1)⟩ : S46) )) (Reps.c3 (show Kd.M k46 _ _ _ (⟨(⟨#[104, 101, 110, 99, 101]⟩ : BA), 4, 1⟩ : S46) [.string (⟨#[104, 101, 110, 99, 101]⟩ : BA), .int .i64 4, .int .i64 1] from (mc_ _ _ _ (⟨(⟨#[104, 101, 110, 99, 101]⟩ : BA), 4, 1⟩ : S46) )) (Reps.c3 (show Kd.M k46 _ _ _ (⟨(⟨#[97, 109]⟩ : BA), 5, 0⟩ : S46) [.string (⟨#[97, 109]⟩ : BA), .int .i64 5, .int .i64 0] from (mc_ _ _ _ (⟨(⟨#[97, 109]⟩ : BA), 5, 0⟩ : S46) )) (Reps.c3 (show Kd.M k46 _ _ _ (⟨(⟨#[112, 109]⟩ : BA), 5, 1⟩ : S46) [.string (⟨#[112, 109]⟩ : BA), .int .i64 5, .int .i64 1] from (mc_ _ _ _ (⟨(⟨#[112, 109]⟩ : BA), 5, 1⟩ : S46) )) (Reps.c3 (show Kd.M k46 _ _ _ (⟨(⟨#[101, 117, 114]⟩ : BA), 6, 9782⟩ : S46) [.string (⟨#[101, 117, 114]⟩ : BA), .int .i64 6, .int .i64 9782] from (mc_ _ _ _ (⟨(⟨#[101, 117, 114]⟩ : BA), 6, 9782⟩ : S46) )) (Reps.c3 (show Kd.M k46 _ _ _ (⟨(⟨#[226, 130, 172]⟩ : BA), 6, 9782⟩ : S46) [.string (⟨#[226, 130, 172]⟩ : BA), .int .i64 6, .int .i64 9782] from (mc_ _ _ _ (⟨(⟨#[226, 130, 172]⟩ : BA), 6, 9782⟩ : S46) )) (Reps.c3 (show Kd.M k46 _ _ _ (⟨(⟨#[121, 101, 110]⟩ : BA), 6, 3920⟩ : S46) [.string (⟨#[121, 101, 110]⟩ : BA), .int .i64 6, .int .i64 3920] from (mc_ _ _ _ (⟨(⟨#[121, 101, 110]⟩ : BA), 6, 3920⟩ : S46) )) (Reps.c3 (show Kd.M k46 _ _ _ (⟨(⟨#[115]⟩ : BA), 7, 1⟩ : S46) [.string (⟨#[115]⟩ : BA), .int .i64 7, .int .i64 1] from (mc_ _ _ _ (⟨(⟨#[115]⟩ : BA), 7, 1⟩ : S46) )) (Reps.c3 (show Kd.M k46 _ _ _ (⟨(⟨#[109, 105, 110]⟩ : BA), 7, 60⟩ : S46) [.string (⟨#[109, 105, 110]⟩ : BA), .int .i64 7, .int .i64 60] from (mc_ _ _ _ (⟨(⟨#[109, 105, 110]⟩ : BA), 7, 60⟩ : S46) )) (Reps.c3 (show Kd.M k46 _ _ _ (⟨(⟨#[104]⟩ : BA), 7, 3600⟩ : S46) [.string (⟨#[104]⟩ : BA), .int .i64 7, .int .i64 3600] from (mc_ _ _ _ (⟨(⟨#[104]⟩ : BA), 7, 3600⟩ : S46) )) (Reps.c3 (show Kd.M k46 _ _ _ (⟨(⟨#[116, 111]⟩ : BA), 8, 0⟩ : S46) [.string (⟨#[116, 111]⟩ : BA), .int .i64 8, .int .i64 0] from (mc_ _ _ _ (⟨(⟨#[116, 111]⟩ : BA), 8, 0⟩ : S46) )) (Reps.c3 (show Kd.M k46 _ _ _ (⟨(⟨#[97]⟩ : BA), 9, 1⟩ : S46) [.string (⟨#[97]⟩ : BA), .int .i64 9, .int .i64 1] from (mc_ _ _ _ (⟨(⟨#[97]⟩ : BA), 9, 1⟩ : S46) )) (Reps.none _ _)))))))))))))))))))))))); intro v260 w1 ho2 hb hg_ hnew_; clear hg_ hnew_; (first | rw [← Ny259.out] at ho2 | (simp only [Int.reduceToNat] at ho2; rw [← Ny259.out] at ho2)); have n0_ := aM_ (Kd.R_lower ho2 (na_ Ta_)); have n1_ := aM_ (da_ Ta_ hb); clear HB; have HO261 := n0_; have HB := n1_; clear n0_ n1_; clear hb ho2))
 go_ret
 exact ⟨_, Tl_, by (with_reducible repeat (first | apply Kd.R_alloc | apply Kd.R_drewN | apply Kd.R_drew)); exact HO261.out, Ta_⟩
noncomputable def l5_number.f (a0 : Int) (a1 : Int) : Option (Int × ByteArray × Int × Int × Int) := some (1, (⟨#[]⟩ : BA), a0, a1, 0)
theorem l5_number.calls (a0 : Int) (a1 : Int) (r1 : Int) (r2 : BA) (r3 : Int) (r4 : Int) (r5 : Int) (w : World) (h : l5_number.f a0 a1 = some (r1, r2, r3, r4, r5)) :
  Calls Tryz.prog 120 #[.int .i64 a0, .int .i64 a1] w fun e w' => e = .returned (.agg #[.int .i64 r1, .string r2, .int .i64 r3, .int .i64 r4, .int .i64 r5]) ∧ Below w.heap.size w w' := by
 have hu48 := Tryz.underlying48
 have HB := aM_ (Below.refl w.heap.size w)
 have H : (some (1, (⟨#[]⟩ : BA), a0, a1, 0)) = some (r1, r2, r3, r4, r5) := h
 clear h
 simp only [Option.some.injEq, Prod.mk.injEq] at H
 obtain ⟨rfl, rfl, rfl, rfl, rfl⟩ := H
 go_enter Tryz.func120, Tryz.ntmps120
 go_wp2_with (first | ((with_reducible refine gd_ 4 ?_); refine te_ rfl (N := 4) rfl (cs := #[.int .i64 0, .string (⟨#[]⟩ : BA), .int .i64 0, .int .i64 0, .int .i64 0]) (t := 48) Tx_ ?_; intro gb262 hg w3 hbox hb; have n0_ := aM_ (da_ Ta_ hb); have n1_ := aM_ (hbox); have n2_ := aM_ ((by rw [hg]; exact (na_ Ta_) : w.heap.size ≤ gb262)); have n3_ := aM_ ((by rw [hg]; exact (na_ Ta_) : w.heap.size ≤ gb262)); clear HB; have HB := n0_; have BK262 := n1_; have GW262 := n2_; have GE262 := n3_; clear n0_ n1_ n2_ n3_; clear hb hbox hg; have hcz4_0 : w3.cell? ⟨gb262, 0, none⟩ = some (.int .i64 0) := (ba_ BK262.out 0).trans rfl; have hcz4_1 : w3.cell? ⟨gb262, 1, none⟩ = some (.string (⟨#[]⟩ : BA)) := (ba_ BK262.out 1).trans rfl; have hcz4_2 : w3.cell? ⟨gb262, 2, none⟩ = some (.int .i64 0) := (ba_ BK262.out 2).trans rfl; have hcz4_3 : w3.cell? ⟨gb262, 3, none⟩ = some (.int .i64 0) := (ba_ BK262.out 3).trans rfl; have hcz4_4 : w3.cell? ⟨gb262, 4, none⟩ = some (.int .i64 0) := (ba_ BK262.out 4).trans rfl; have hfz4_0 := ha_ BK262.out 0; have hfz4_1 := ha_ BK262.out 1; have hfz4_2 := ha_ BK262.out 2; have hfz4_3 := ha_ BK262.out 3; have hfz4_4 := ha_ BK262.out 4))
 refine bodyPost_ret (results_cell_row rfl _ _ gb262 48 #[.int .i64 1, .string (⟨#[]⟩ : BA), .int .i64 a0, .int .i64 a1, .int .i64 0] (0, 0) _ rfl (by (with_reducible repeat (first | refine ja_ ?_ _ | refine ka_ ?_ | refine ia_ ?_ _)); refine jc_ (cs := #[.int .i64 1, .string (⟨#[]⟩ : BA), .int .i64 a0, .int .i64 a1, .int .i64 0]) ?_ 4 _ rfl; (with_reducible repeat (first | refine ja_ ?_ _ | refine ka_ ?_ | refine ia_ ?_ _)); refine jc_ (cs := #[.int .i64 1, .string (⟨#[]⟩ : BA), .int .i64 a0, .int .i64 0, .int .i64 0]) ?_ 3 _ rfl; (with_reducible repeat (first | refine ja_ ?_ _ | refine ka_ ?_ | refine ia_ ?_ _)); refine jc_ (cs := #[.int .i64 1, .string (⟨#[]⟩ : BA), .int .i64 0, .int .i64 0, .int .i64 0]) ?_ 2 _ rfl; (with_reducible repeat (first | refine ja_ ?_ _ | refine ka_ ?_ | refine ia_ ?_ _)); refine jc_ (cs := #[.int .i64 1, .string (⟨#[]⟩ : BA), .int .i64 0, .int .i64 0, .int .i64 0]) ?_ 1 _ rfl; (with_reducible repeat (first | refine ja_ ?_ _ | refine ka_ ?_ | refine ia_ ?_ _)); refine jc_ (cs := #[.int .i64 0, .string (⟨#[]⟩ : BA), .int .i64 0, .int .i64 0, .int .i64 0]) ?_ 0 _ rfl; (with_reducible repeat (first | refine ja_ ?_ _ | refine ka_ ?_ | refine ia_ ?_ _)); exact BK262.out) Tryz.underlying48 rfl Ti_) rfl ?_
 exact ⟨Tl_, by repeat (first | (with_reducible first | exact HB.out | apply aa_ | apply ca_ | apply ga_ | refine ma_ ?_ GE262.out) | exact HB.out)⟩
noncomputable def l5_text.f (a0 : BA) : Option (Int × ByteArray × Int × Int × Int) := some (0, a0, 0, 0, 0)
theorem l5_text.calls (a0 : BA) (r1 : Int) (r2 : BA) (r3 : Int) (r4 : Int) (r5 : Int) (w : World) (h : l5_text.f a0 = some (r1, r2, r3, r4, r5)) :
  Calls Tryz.prog 121 #[.string a0] w fun e w' => e = .returned (.agg #[.int .i64 r1, .string r2, .int .i64 r3, .int .i64 r4, .int .i64 r5]) ∧ Below w.heap.size w w' := by
 have hu48 := Tryz.underlying48
 have HB := aM_ (Below.refl w.heap.size w)
 have H : (some (0, a0, 0, 0, 0)) = some (r1, r2, r3, r4, r5) := h
 clear h
 simp only [Option.some.injEq, Prod.mk.injEq] at H
 obtain ⟨rfl, rfl, rfl, rfl, rfl⟩ := H
 go_enter Tryz.func121, Tryz.ntmps121
 go_wp2_with (first | ((with_reducible refine gd_ 2 ?_); refine te_ rfl (N := 2) rfl (cs := #[.int .i64 0, .string (⟨#[]⟩ : BA), .int .i64 0, .int .i64 0, .int .i64 0]) (t := 48) Tx_ ?_; intro gb263 hg w2 hbox hb; have n0_ := aM_ (da_ Ta_ hb); have n1_ := aM_ (hbox); have n2_ := aM_ ((by rw [hg]; exact (na_ Ta_) : w.heap.size ≤ gb263)); have n3_ := aM_ ((by rw [hg]; exact (na_ Ta_) : w.heap.size ≤ gb263)); clear HB; have HB := n0_; have BK263 := n1_; have GW263 := n2_; have GE263 := n3_; clear n0_ n1_ n2_ n3_; clear hb hbox hg; have hcz3_0 : w2.cell? ⟨gb263, 0, none⟩ = some (.int .i64 0) := (ba_ BK263.out 0).trans rfl; have hcz3_1 : w2.cell? ⟨gb263, 1, none⟩ = some (.string (⟨#[]⟩ : BA)) := (ba_ BK263.out 1).trans rfl; have hcz3_2 : w2.cell? ⟨gb263, 2, none⟩ = some (.int .i64 0) := (ba_ BK263.out 2).trans rfl; have hcz3_3 : w2.cell? ⟨gb263, 3, none⟩ = some (.int .i64 0) := (ba_ BK263.out 3).trans rfl; have hcz3_4 : w2.cell? ⟨gb263, 4, none⟩ = some (.int .i64 0) := (ba_ BK263.out 4).trans rfl; have hfz3_0 := ha_ BK263.out 0; have hfz3_1 := ha_ BK263.out 1; have hfz3_2 := ha_ BK263.out 2; have hfz3_3 := ha_ BK263.out 3; have hfz3_4 := ha_ BK263.out 4))
 refine bodyPost_ret (results_cell_row rfl _ _ gb263 48 #[.int .i64 0, .string a0, .int .i64 0, .int .i64 0, .int .i64 0] (0, 0) _ rfl (by (with_reducible repeat (first | refine ja_ ?_ _ | refine ka_ ?_ | refine ia_ ?_ _)); refine jc_ (cs := #[.int .i64 0, .string a0, .int .i64 0, .int .i64 0, .int .i64 0]) ?_ 4 _ rfl; (with_reducible repeat (first | refine ja_ ?_ _ | refine ka_ ?_ | refine ia_ ?_ _)); refine jc_ (cs := #[.int .i64 0, .string a0, .int .i64 0, .int .i64 0, .int .i64 0]) ?_ 3 _ rfl; (with_reducible repeat (first | refine ja_ ?_ _ | refine ka_ ?_ | refine ia_ ?_ _)); refine jc_ (cs := #[.int .i64 0, .string a0, .int .i64 0, .int .i64 0, .int .i64 0]) ?_ 2 _ rfl; (with_reducible repeat (first | refine ja_ ?_ _ | refine ka_ ?_ | refine ia_ ?_ _)); refine jc_ (cs := #[.int .i64 0, .string (⟨#[]⟩ : BA), .int .i64 0, .int .i64 0, .int .i64 0]) ?_ 1 _ rfl; (with_reducible repeat (first | refine ja_ ?_ _ | refine ka_ ?_ | refine ia_ ?_ _)); refine jc_ (cs := #[.int .i64 0, .string (⟨#[]⟩ : BA), .int .i64 0, .int .i64 0, .int .i64 0]) ?_ 0 _ rfl; (with_reducible repeat (first | refine ja_ ?_ _ | refine ka_ ?_ | refine ia_ ?_ _)); exact BK263.out) Tryz.underlying48 rfl Ti_) rfl ?_
 exact ⟨Tl_, by repeat (first | (with_reducible first | exact HB.out | apply aa_ | apply ca_ | apply ga_ | refine ma_ ?_ GE263.out) | exact HB.out)⟩
end Go.Proofs.YtiocgaekoeekgaaGreat.P
end
section
namespace Go.Proofs.YtiocgaekoeekgaaGreat.P
open Go.RowKit YtiocgaekoeekgaaGreatW.PrintWords YtiocgaekoeekgaaGreatW.PrintLast YtiocgaekoeekgaaGreatW.PrintMore
attribute [local go_sem] ub_ rb_ cc_ bc_ kb_ jb_ tb_ qb_   
set_option linter.unusedVariables false
set_option linter.unusedSimpArgs false
attribute [local go_sem] Oper.semAt_some
abbrev db_ := S56
theorem lit_R {W : World} {base a : Nat} {xs : List Int} {ok : Nat → Prop} (h : W.heap[a]? = some (.cells (xs.map (Value.int .i64)).toArray 3 (0, 0))) (hb : base ≤ a) (hn : xs.length ≤ 1000000) (hok : ok a) : Kd.R (Kd.int .i64) 3 W base ok (.slice (some ⟨a, 0, none⟩) xs.length xs.length) xs := by
 have h1 : W.ownsRow base 3 1 (.slice (some ⟨a, 0, none⟩) xs.length xs.length) xs.length (xs.map (Value.int .i64)) :=
  ⟨Tt_, .inr ⟨a, xs.length, _, rfl, hb, h, Nat.le_refl _, by simp [maxLen]; omega, Tt_, by rw [List.take_of_length_le Tt_]⟩⟩
 exact Kd.R_of_own (enc := Value.int .i64) (h1 := fun _ => rfl) (xs := xs) h1 (fun k hk => by
  have hk2 : a = k := by simpa [Value.ownBlock] using hk
  exact hk2 ▸ hok)
def encR (r : db_ × Nat × Nat) : List Value := [.int .i64 r.1.f0, .slice (some ⟨r.2.1, 0, none⟩) r.1.f1.length r.1.f1.length, .int .i64 r.1.f2.f0, .slice (some ⟨r.2.2, 0, none⟩) r.1.f2.f1.length r.1.f2.f1.length, .int .i64 r.1.f3]
structure RLits (W : World) (base : Nat) (Rs : List (db_ × Nat × Nat)) : Prop where
 blk : ∀ r ∈ Rs, (W.heap[r.2.1]? = some (.cells (r.1.f1.map (Value.int .i64)).toArray 3 (0, 0)) ∧ W.heap[r.2.2]? = some (.cells (r.1.f2.f1.map (Value.int .i64)).toArray 3 (0, 0))) ∧ base ≤ r.2.1 ∧ base ≤ r.2.2
 up : Rs.Pairwise fun x y => x.2.1 < y.2.1 ∧ x.2.1 < y.2.2 ∧ x.2.2 < y.2.1 ∧ x.2.2 < y.2.2
theorem RLits.nil (W : World) (base : Nat) : RLits W base [] := ⟨Tt_, List.Pairwise.nil⟩
theorem RLits.below {W W1 : World} {base : Nat} {Rs : List (db_ × Nat × Nat)} (h : RLits W base Rs) (hb : Below W.heap.size W W1) : RLits W1 base Rs := ⟨fun r hr => ⟨⟨la_ (h.blk r hr).1.1 hb, la_ (h.blk r hr).1.2 hb⟩, (h.blk r hr).2⟩, h.up⟩
theorem RLits.snoc {W W1 : World} {base : Nat} {Rs : List (db_ × Nat × Nat)} (h : RLits W base Rs) (hb : Below W.heap.size W W1) (x : db_) (a1 a3 : Nat) (h1 : W1.heap[a1]? = some (.cells (x.f1.map (Value.int .i64)).toArray 3 (0, 0))) (h3 : W1.heap[a3]? = some (.cells (x.f2.f1.map (Value.int .i64)).toArray 3 (0, 0)))
  (hg : base ≤ a1 ∧ base ≤ a3) (hs : Rs = [] ∨ (W.heap.size ≤ a1 ∧ W.heap.size ≤ a3)) : RLits W1 base (Rs ++ [(x, a1, a3)]) := by
 refine ⟨fun r hr => ?_, List.pairwise_append.2 ⟨h.up, List.pairwise_singleton _ _, fun r hr q hq => ?_⟩⟩
 ·rcases List.mem_append.1 hr with hr | hr
  ·exact (h.below hb).blk r hr
  rw [List.mem_singleton.1 hr]; exact ⟨⟨h1, h3⟩, hg⟩
 rw [List.mem_singleton.1 hq]
 rcases hs with rfl | hs
 ·simp at hr
 have b1 := bb_ (h.blk r hr).1.1
 have b2 := bb_ (h.blk r hr).1.2
 show r.2.1 < a1 ∧ r.2.1 < a3 ∧ r.2.2 < a1 ∧ r.2.2 < a3
 omega
theorem ql_ {α β : Type} (f : α → List β) (n : Nat) (hf : ∀ x, (f x).length = n) : ∀ (l : List α) (j : Nat) (x : α), l[j]? = some x → ((l.flatMap f).drop (j * n)).take n = f x
 | [], j, x, h => by simp at h
 | y :: l, 0, x, h => by
  injection h with h; subst h; rw [Nat.zero_mul, List.drop_zero, List.flatMap_cons]; rw [← hf y]
  exact List.take_left
 | y :: l, j + 1, x, h => by
  rw [List.flatMap_cons, Nat.succ_mul, Nat.add_comm, ← List.drop_drop, ← hf y, List.drop_left, hf y]; exact ql_ f n hf l j x h
theorem eg_ {α β : Type} (f : α → List β) (n : Nat) (hf : ∀ x, (f x).length = n) : ∀ l : List α, (l.flatMap f).length = l.length * n
 | [] => by simp
 | y :: l => by rw [List.flatMap_cons, List.length_append, eg_ f n hf l, hf y, List.length_cons, Nat.succ_mul, Nat.add_comm]
theorem ns_ {Rs : List (db_ × Nat × Nat)} (h : Rs.Pairwise fun x y => x.2.1 < y.2.1 ∧ x.2.1 < y.2.2 ∧ x.2.2 < y.2.1 ∧ x.2.2 < y.2.2) (i j : Nat) (x y : db_ × Nat × Nat) (hx : Rs[i]? = some x) (hy : Rs[j]? = some y) (k : Nat) (h1 : k = x.2.1 ∨ k = x.2.2) (h2 : k = y.2.1 ∨ k = y.2.2) : i = j := by
 obtain ⟨hi, ei⟩ := List.getElem?_eq_some_iff.1 hx
 obtain ⟨hj, ej⟩ := List.getElem?_eq_some_iff.1 hy
 rcases Nat.lt_trichotomy i j with hij | hij | hij
 ·have := List.pairwise_iff_getElem.1 h i j hi hj hij
  rw [ei, ej] at this; omega
 ·exact hij
 have := List.pairwise_iff_getElem.1 h j i hj hi hij
 rw [ei, ej] at this
 omega
theorem qt_ {W : World} {base : Nat} (Rs : List (db_ × Nat × Nat)) (h : RLits W base Rs) (hb : base ≤ W.heap.size) (hs : ∀ r ∈ Rs, r.1.f1.length ≤ 1000000 ∧ r.1.f2.f1.length ≤ 1000000) (hn : Rs.length ≤ 1000000) :
  Kd.S k56 56 (W.alloc (.cells (Rs.flatMap encR).toArray 56)) base (fun _ => True) (.slice (some ⟨W.heap.size, 0, none⟩) Rs.length Rs.length) (Rs.map (·.1)) := by
 obtain ⟨f, hrep⟩ := Kd.reps_tag (d := k56) (w := W) (base := base) (ok := fun k => k < W.heap.size) (xs := Rs.map (·.1)) (inner := Rs.flatMap encR) (fun j k => ∃ x, Rs[j]? = some x ∧ (k = x.2.1 ∨ k = x.2.2))
  (fun i j k ⟨x, hx, h1⟩ ⟨y, hy, h2⟩ => ns_ h.up i j x y hx hy k h1 h2)
  (fun j k ⟨x, hx, h1⟩ => by
   have hm := h.blk x (List.mem_of_getElem? hx)
   rcases h1 with rfl | rfl
   ·exact bb_ hm.1.1
   exact bb_ hm.1.2)
  (by rw [List.length_map]; exact eg_ encR 5 (fun _ => rfl) Rs)
  (fun j x hx => by
   rw [List.getElem?_map] at hx; obtain ⟨r, hr, rfl⟩ := Option.map_eq_some_iff.1 hx; have hm := h.blk r (List.mem_of_getElem? hr); have hs' := hs r (List.mem_of_getElem? hr); show k56.M W base _ r.1 (((Rs.flatMap encR).drop (j * 5)).take 5); rw [ql_ encR 5 (fun _ => rfl) Rs j r hr]
   exact ol_ W base _ r.1 (lit_R hm.1.1 hm.2.1 hs'.1 ⟨r, hr, .inl rfl⟩) (lit_R hm.1.2 hm.2.2 hs'.2 ⟨r, hr, .inr rfl⟩))
 refine ⟨f, fun k _ => trivial, Rs.flatMap encR, ?_, ?_⟩
 ·have h2 := World.ownsRow_lit (base := base) (e := 56) (size := 5) W (Rs.flatMap encR).toArray Rs.length hb (by simp [maxLen]; omega) (by simpa using eg_ encR 5 (fun _ => rfl) Rs)
  have h3 : (Rs.map (·.1)).zipIdx.length = Rs.length := by simp
  rw [h3]; show (W.alloc (.cells (Rs.flatMap encR).toArray 56)).ownsRow base 56 5 _ _ _
  simpa using h2
 refine hrep.imp_ (fun p c hp => (Kd.tag f k56).M_mono (fun k hk => ⟨trivial, fun he => ?_⟩) (Kd.M_below ((Kd.tag f k56).M_bound hp) (aa_ (Below.refl _ _) _)))
 have h3 : k = W.heap.size := by simpa [Value.ownBlock] using he
 have := hk.2.2.1
 omega
theorem nb_ (a0 : Int) (A1 : Option Addr) (n1 c1 : Nat) (a2 : Int) (A3 : Option Addr) (n3 c3 : Nat) (a4 : Int) (w : World) :
  Calls Tryz.prog 21 #[.int .i64 a0, .slice A1 n1 c1, .int .i64 a2, .slice A3 n3 c3, .int .i64 a4] w fun e w' => e = .returned (.agg #[.int .i64 a0, .slice A1 n1 c1, .int .i64 a2, .slice A3 n3 c3, .int .i64 a4]) ∧ Below w.heap.size w w' := by
 have hu1 := Tryz.underlying56
 have hu2 := Tryz.underlying54
 go_enter Tryz.func21, Tryz.ntmps21
 go_wp2
 refine bodyPost_ret (results_cell_row rfl _ _ w.heap.size 56 #[.int .i64 a0, .slice A1 n1 c1, .int .i64 a2, .slice A3 n3 c3, .int .i64 a4] (0, 0) _ rfl (oa_ w _) Tryz.underlying56 rfl Ti_) rfl ?_
 exact ⟨rfl, aa_ (Below.refl _ _) _⟩
def um_ (o : Int) : List Int := if o = 0 then [4, 2, 0] else if o = 1 then [4, 0, 2] else [0, 2, 4]
def lf_ (a : Int) : List db_ := [
 (⟨1, [(-1), (-51), (-1), (-51), (-1)], ⟨1, (um_ a)⟩, 1⟩ : db_),
 (⟨1, [(-1), (-52), (-1), (-52), (-1)], ⟨1, [0, 2, 4]⟩, 0⟩ : db_),
 (⟨1, [(-1), (-2), (-1)], ⟨1, [2, 1, 0]⟩, 0⟩ : db_),
 (⟨1, [(-2), (-1)], ⟨2, [0, 1]⟩, 2⟩ : db_),
 (⟨1, [8, (-4), (-5)], ⟨6, [0, 1, 2]⟩, 1⟩ : db_),
 (⟨1, [(-3)], ⟨7, [0]⟩, 1⟩ : db_),
 (⟨8, [(-1)], ⟨0, [0]⟩, 0⟩ : db_),
 (⟨8, [(-10)], ⟨0, [0]⟩, 0⟩ : db_)]
theorem sh_ (a n : Int) (hn : 0 < n) (hn2 : n ≤ 4611686018427387904) : l5_within.f a n = some (a % n) := by
 unfold l5_within.f
 have h1 := Int.emod_nonneg a (by omega : n ≠ 0)
 have h2 := Int.emod_lt_of_pos a hn
 have h4 : (n.natAbs : Int) = n := by omega
 rw [if_neg Td_]
 have h3 := @Int.tmod_eq_emod a n
 by_cases hd : 0 ≤ a ∨ n ∣ a
 ·rw [if_pos hd] at h3
  rw [if_neg Td_, h3]
  congr 1
  omega
 rw [if_neg hd, h4] at h3
 rw [if_pos Td_, h3]
 congr 1
 unfold wrap64
 omega
theorem jl_ (a : Int) (w : World) : Calls Tryz.prog 27 #[.int .i64 a] w fun e w' => ∃ v : Value, e = .returned v ∧ Kd.S k56 56 w' w.heap.size (fun _ => True) v (lf_ (a % 3)) ∧ Below w.heap.size w w' := by
 have hw := sh_ a 3 Tm_ Tm_
 have h0 := Int.emod_nonneg a (by decide : (3 : Int) ≠ 0)
 have h1 := Int.emod_lt_of_pos a (by decide : (0 : Int) < 3)
 obtain ⟨o, ho⟩ : ∃ o : Nat, a % 3 = (o : Int) := ⟨(a % 3).toNat, Td_⟩
 rw [ho] at hw ⊢
 have ho3 : o < 3 := by omega
 have hoz : (o : Int) < 3 := by omega
 have HW := aM_ hw
 clear hw h0 h1 ho
 go_enter Tryz.func27, Tryz.ntmps27
 go_wp2_with fail
 refine (l5_within.calls a 3 (o : Int) _ HW.out).mono ?_
 rintro e W0 ⟨rfl, ⟨⟨nd, rfl⟩⟩⟩
 have hp0 : ((((w.alloc (.cells #[.int .i64 4, .int .i64 2, .int .i64 0] 3)).alloc (.cells #[.int .i64 4, .int .i64 0, .int .i64 2] 3)).alloc (.cells #[.int .i64 0, .int .i64 2, .int .i64 4] 3)).alloc (.cells #[.slice (some ⟨w.heap.size, 0, none⟩) 3 3, .slice (some ⟨w.heap.size + 1, 0, none⟩) 3 3, .slice (some ⟨w.heap.size + 1 + 1, 0, none⟩) 3 3] 35)).heap[w.heap.size + o]? = some (.cells ((um_ (o : Int)).map (Value.int .i64)).toArray 3 (0, 0)) := by
  rcases (by omega : o = 0 ∨ o = 1 ∨ o = 2) with rfl | rfl | rfl
  ·exact ta_ (ta_ (ta_ (oa_ w _)))
  ·exact ta_ (ta_ (gb_ Tt_))
  exact ta_ (gb_ Tt_)
 have hb0 : ((((w.alloc (.cells #[.int .i64 4, .int .i64 2, .int .i64 0] 3)).alloc (.cells #[.int .i64 4, .int .i64 0, .int .i64 2] 3)).alloc (.cells #[.int .i64 0, .int .i64 2, .int .i64 4] 3)).alloc (.cells #[.slice (some ⟨w.heap.size, 0, none⟩) 3 3, .slice (some ⟨w.heap.size + 1, 0, none⟩) 3 3, .slice (some ⟨w.heap.size + 1 + 1, 0, none⟩) 3 3] 35)).heap[w.heap.size + 1 + 1 + 1]? = _ := gb_ Tt_
 have HB0 := aM_ (aa_ (aa_ (aa_ (aa_ (Below.refl w.heap.size w) (.cells #[.int .i64 4, .int .i64 2, .int .i64 0] 3)) (.cells #[.int .i64 4, .int .i64 0, .int .i64 2] 3)) (.cells #[.int .i64 0, .int .i64 2, .int .i64 4] 3)) (.cells #[.slice (some ⟨w.heap.size, 0, none⟩) 3 3, .slice (some ⟨w.heap.size + 1, 0, none⟩) 3 3, .slice (some ⟨w.heap.size + 1 + 1, 0, none⟩) 3 3] 35))
 generalize (((w.alloc (.cells #[.int .i64 4, .int .i64 2, .int .i64 0] 3)).alloc (.cells #[.int .i64 4, .int .i64 0, .int .i64 2] 3)).alloc (.cells #[.int .i64 0, .int .i64 2, .int .i64 4] 3)).alloc (.cells #[.slice (some ⟨w.heap.size, 0, none⟩) 3 3, .slice (some ⟨w.heap.size + 1, 0, none⟩) 3 3, .slice (some ⟨w.heap.size + 1 + 1, 0, none⟩) 3 3] 35) = WL at *
 have hcp : (WL.drewN nd).cell? ⟨w.heap.size + 1 + 1 + 1, o, none⟩ = some (.slice (some ⟨w.heap.size + o, 0, none⟩) 3 3) := by
  rcases (by omega : o = 0 ∨ o = 1 ∨ o = 2) with rfl | rfl | rfl
  ·exact (ba_ hb0 0).trans rfl
  ·exact (ba_ hb0 1).trans rfl
  exact (ba_ hb0 2).trans rfl
 have HPB : Az ((WL.drewN nd).heap[w.heap.size + o]? = some (.cells ((um_ (o : Int)).map (Value.int .i64)).toArray 3 (0, 0))) := ⟨hp0⟩
 replace HB0 := aM_ (ca_ HB0.out nd)
 have hdl : (um_ (o : Int)).length = 3 := by
  rcases (by omega : o = 0 ∨ o = 1 ∨ o = 2) with rfl | rfl | rfl <;> rfl
 have HDL := aM_ hdl
 have RL0 := aM_ (RLits.nil (WL.drewN nd) w.heap.size)
 clear hp0 hb0 hdl
 generalize WL.drewN nd = W0 at *
 obtain ⟨pa, hpa⟩ : ∃ pa, pa = w.heap.size + o := ⟨_, rfl⟩
 rw [← hpa] at HPB hcp
 have hpa2 : w.heap.size ≤ pa := by omega
 clear hpa
 have HP1 : Az ((W0.alloc (.cells #[.int .i64 (-1), .int .i64 (-51), .int .i64 (-1), .int .i64 (-51), .int .i64 (-1)] 3)).heap[pa]? = some (.cells ((um_ (o : Int)).map (Value.int .i64)).toArray 3 (0, 0))) := ⟨ta_ HPB.out⟩
 have hg0 := HB0.out.size
 have RA0 : Az (RLits (W0.alloc (.cells #[.int .i64 (-1), .int .i64 (-51), .int .i64 (-1), .int .i64 (-51), .int .i64 (-1)] 3)) w.heap.size _) := ⟨RL0.out.snoc (aa_ (Below.refl _ _) _) (⟨1, [(-1), (-51), (-1), (-51), (-1)], ⟨1, (um_ (o : Int))⟩, 1⟩ : db_) W0.heap.size pa (oa_ W0 _) (HP1.out) ⟨Td_, Td_⟩ (.inl rfl)⟩
 have BA0 : Az (Below w.heap.size w (W0.alloc (.cells #[.int .i64 (-1), .int .i64 (-51), .int .i64 (-1), .int .i64 (-51), .int .i64 (-1)] 3))) := ⟨da_ HB0.out (aa_ (Below.refl _ _) _)⟩
 clear hg0
 go_wp2_with fail
 refine (nb_ 1 (some ⟨W0.heap.size, 0, none⟩) 5 5 1 (some ⟨pa, 0, none⟩) 3 3 1 (W0.alloc (.cells #[.int .i64 (-1), .int .i64 (-51), .int .i64 (-1), .int .i64 (-51), .int .i64 (-1)] 3))).mono ?_
 rintro e W1 ⟨rfl, hb⟩
 have RL1 := aM_ (RA0.out.below hb)
 have HB1 := aM_ (da_ BA0.out hb)
 clear hb RA0 BA0 RL0 HB0
 generalize W0.heap.size = s0 at *
 have hg1 := HB1.out.size
 have RA1 : Az (RLits ((W1.alloc (.cells #[.int .i64 (-1), .int .i64 (-52), .int .i64 (-1), .int .i64 (-52), .int .i64 (-1)] 3)).alloc (.cells #[.int .i64 0, .int .i64 2, .int .i64 4] 3)) w.heap.size _) := ⟨RL1.out.snoc (aa_ (aa_ (Below.refl _ _) _) _) (⟨1, [(-1), (-52), (-1), (-52), (-1)], ⟨1, [0, 2, 4]⟩, 0⟩ : db_) W1.heap.size (W1.heap.size + 1) (ta_ (oa_ W1 _)) (gb_ Tt_) ⟨Td_, Td_⟩ (.inr ⟨Nat.le_refl _, Nat.le_succ _⟩)⟩
 have BA1 : Az (Below w.heap.size w ((W1.alloc (.cells #[.int .i64 (-1), .int .i64 (-52), .int .i64 (-1), .int .i64 (-52), .int .i64 (-1)] 3)).alloc (.cells #[.int .i64 0, .int .i64 2, .int .i64 4] 3))) := ⟨da_ HB1.out (aa_ (aa_ (Below.refl _ _) _) _)⟩
 clear hg1
 go_wp2_with fail
 refine (nb_ 1 (some ⟨W1.heap.size, 0, none⟩) 5 5 1 (some ⟨W1.heap.size + 1, 0, none⟩) 3 3 0 ((W1.alloc (.cells #[.int .i64 (-1), .int .i64 (-52), .int .i64 (-1), .int .i64 (-52), .int .i64 (-1)] 3)).alloc (.cells #[.int .i64 0, .int .i64 2, .int .i64 4] 3))).mono ?_
 rintro e W2 ⟨rfl, hb⟩
 have RL2 := aM_ (RA1.out.below hb)
 have HB2 := aM_ (da_ BA1.out hb)
 clear hb RA1 BA1 RL1 HB1
 generalize W1.heap.size = s1 at *
 have hg2 := HB2.out.size
 have RA2 : Az (RLits ((W2.alloc (.cells #[.int .i64 (-1), .int .i64 (-2), .int .i64 (-1)] 3)).alloc (.cells #[.int .i64 2, .int .i64 1, .int .i64 0] 3)) w.heap.size _) := ⟨RL2.out.snoc (aa_ (aa_ (Below.refl _ _) _) _) (⟨1, [(-1), (-2), (-1)], ⟨1, [2, 1, 0]⟩, 0⟩ : db_) W2.heap.size (W2.heap.size + 1) (ta_ (oa_ W2 _)) (gb_ Tt_) ⟨Td_, Td_⟩ (.inr ⟨Nat.le_refl _, Nat.le_succ _⟩)⟩
 have BA2 : Az (Below w.heap.size w ((W2.alloc (.cells #[.int .i64 (-1), .int .i64 (-2), .int .i64 (-1)] 3)).alloc (.cells #[.int .i64 2, .int .i64 1, .int .i64 0] 3))) := ⟨da_ HB2.out (aa_ (aa_ (Below.refl _ _) _) _)⟩
 clear hg2
 go_wp2_with fail
 refine (nb_ 1 (some ⟨W2.heap.size, 0, none⟩) 3 3 1 (some ⟨W2.heap.size + 1, 0, none⟩) 3 3 0 ((W2.alloc (.cells #[.int .i64 (-1), .int .i64 (-2), .int .i64 (-1)] 3)).alloc (.cells #[.int .i64 2, .int .i64 1, .int .i64 0] 3))).mono ?_
 rintro e W3 ⟨rfl, hb⟩
 have RL3 := aM_ (RA2.out.below hb)
 have HB3 := aM_ (da_ BA2.out hb)
 clear hb RA2 BA2 RL2 HB2
 generalize W2.heap.size = s2 at *
 have hg3 := HB3.out.size
 have RA3 : Az (RLits ((W3.alloc (.cells #[.int .i64 (-2), .int .i64 (-1)] 3)).alloc (.cells #[.int .i64 0, .int .i64 1] 3)) w.heap.size _) := ⟨RL3.out.snoc (aa_ (aa_ (Below.refl _ _) _) _) (⟨1, [(-2), (-1)], ⟨2, [0, 1]⟩, 2⟩ : db_) W3.heap.size (W3.heap.size + 1) (ta_ (oa_ W3 _)) (gb_ Tt_) ⟨Td_, Td_⟩ (.inr ⟨Nat.le_refl _, Nat.le_succ _⟩)⟩
 have BA3 : Az (Below w.heap.size w ((W3.alloc (.cells #[.int .i64 (-2), .int .i64 (-1)] 3)).alloc (.cells #[.int .i64 0, .int .i64 1] 3))) := ⟨da_ HB3.out (aa_ (aa_ (Below.refl _ _) _) _)⟩
 clear hg3
 go_wp2_with fail
 refine (nb_ 1 (some ⟨W3.heap.size, 0, none⟩) 2 2 2 (some ⟨W3.heap.size + 1, 0, none⟩) 2 2 2 ((W3.alloc (.cells #[.int .i64 (-2), .int .i64 (-1)] 3)).alloc (.cells #[.int .i64 0, .int .i64 1] 3))).mono ?_
 rintro e W4 ⟨rfl, hb⟩
 have RL4 := aM_ (RA3.out.below hb)
 have HB4 := aM_ (da_ BA3.out hb)
 clear hb RA3 BA3 RL3 HB3
 generalize W3.heap.size = s3 at *
 have hg4 := HB4.out.size
 have RA4 : Az (RLits ((W4.alloc (.cells #[.int .i64 8, .int .i64 (-4), .int .i64 (-5)] 3)).alloc (.cells #[.int .i64 0, .int .i64 1, .int .i64 2] 3)) w.heap.size _) := ⟨RL4.out.snoc (aa_ (aa_ (Below.refl _ _) _) _) (⟨1, [8, (-4), (-5)], ⟨6, [0, 1, 2]⟩, 1⟩ : db_) W4.heap.size (W4.heap.size + 1) (ta_ (oa_ W4 _)) (gb_ Tt_) ⟨Td_, Td_⟩ (.inr ⟨Nat.le_refl _, Nat.le_succ _⟩)⟩
 have BA4 : Az (Below w.heap.size w ((W4.alloc (.cells #[.int .i64 8, .int .i64 (-4), .int .i64 (-5)] 3)).alloc (.cells #[.int .i64 0, .int .i64 1, .int .i64 2] 3))) := ⟨da_ HB4.out (aa_ (aa_ (Below.refl _ _) _) _)⟩
 clear hg4
 go_wp2_with fail
 refine (nb_ 1 (some ⟨W4.heap.size, 0, none⟩) 3 3 6 (some ⟨W4.heap.size + 1, 0, none⟩) 3 3 1 ((W4.alloc (.cells #[.int .i64 8, .int .i64 (-4), .int .i64 (-5)] 3)).alloc (.cells #[.int .i64 0, .int .i64 1, .int .i64 2] 3))).mono ?_
 rintro e W5 ⟨rfl, hb⟩
 have RL5 := aM_ (RA4.out.below hb)
 have HB5 := aM_ (da_ BA4.out hb)
 clear hb RA4 BA4 RL4 HB4
 generalize W4.heap.size = s4 at *
 have hg5 := HB5.out.size
 have RA5 : Az (RLits ((W5.alloc (.cells #[.int .i64 (-3)] 3)).alloc (.cells #[.int .i64 0] 3)) w.heap.size _) := ⟨RL5.out.snoc (aa_ (aa_ (Below.refl _ _) _) _) (⟨1, [(-3)], ⟨7, [0]⟩, 1⟩ : db_) W5.heap.size (W5.heap.size + 1) (ta_ (oa_ W5 _)) (gb_ Tt_) ⟨Td_, Td_⟩ (.inr ⟨Nat.le_refl _, Nat.le_succ _⟩)⟩
 have BA5 : Az (Below w.heap.size w ((W5.alloc (.cells #[.int .i64 (-3)] 3)).alloc (.cells #[.int .i64 0] 3))) := ⟨da_ HB5.out (aa_ (aa_ (Below.refl _ _) _) _)⟩
 clear hg5
 go_wp2_with fail
 refine (nb_ 1 (some ⟨W5.heap.size, 0, none⟩) 1 1 7 (some ⟨W5.heap.size + 1, 0, none⟩) 1 1 1 ((W5.alloc (.cells #[.int .i64 (-3)] 3)).alloc (.cells #[.int .i64 0] 3))).mono ?_
 rintro e W6 ⟨rfl, hb⟩
 have RL6 := aM_ (RA5.out.below hb)
 have HB6 := aM_ (da_ BA5.out hb)
 clear hb RA5 BA5 RL5 HB5
 generalize W5.heap.size = s5 at *
 have hg6 := HB6.out.size
 have RA6 : Az (RLits ((W6.alloc (.cells #[.int .i64 (-1)] 3)).alloc (.cells #[.int .i64 0] 3)) w.heap.size _) := ⟨RL6.out.snoc (aa_ (aa_ (Below.refl _ _) _) _) (⟨8, [(-1)], ⟨0, [0]⟩, 0⟩ : db_) W6.heap.size (W6.heap.size + 1) (ta_ (oa_ W6 _)) (gb_ Tt_) ⟨Td_, Td_⟩ (.inr ⟨Nat.le_refl _, Nat.le_succ _⟩)⟩
 have BA6 : Az (Below w.heap.size w ((W6.alloc (.cells #[.int .i64 (-1)] 3)).alloc (.cells #[.int .i64 0] 3))) := ⟨da_ HB6.out (aa_ (aa_ (Below.refl _ _) _) _)⟩
 clear hg6
 go_wp2_with fail
 refine (nb_ 8 (some ⟨W6.heap.size, 0, none⟩) 1 1 0 (some ⟨W6.heap.size + 1, 0, none⟩) 1 1 0 ((W6.alloc (.cells #[.int .i64 (-1)] 3)).alloc (.cells #[.int .i64 0] 3))).mono ?_
 rintro e W7 ⟨rfl, hb⟩
 have RL7 := aM_ (RA6.out.below hb)
 have HB7 := aM_ (da_ BA6.out hb)
 clear hb RA6 BA6 RL6 HB6
 generalize W6.heap.size = s6 at *
 have hg7 := HB7.out.size
 have RA7 : Az (RLits ((W7.alloc (.cells #[.int .i64 (-10)] 3)).alloc (.cells #[.int .i64 0] 3)) w.heap.size _) := ⟨RL7.out.snoc (aa_ (aa_ (Below.refl _ _) _) _) (⟨8, [(-10)], ⟨0, [0]⟩, 0⟩ : db_) W7.heap.size (W7.heap.size + 1) (ta_ (oa_ W7 _)) (gb_ Tt_) ⟨Td_, Td_⟩ (.inr ⟨Nat.le_refl _, Nat.le_succ _⟩)⟩
 have BA7 : Az (Below w.heap.size w ((W7.alloc (.cells #[.int .i64 (-10)] 3)).alloc (.cells #[.int .i64 0] 3))) := ⟨da_ HB7.out (aa_ (aa_ (Below.refl _ _) _) _)⟩
 clear hg7
 go_wp2_with fail
 refine (nb_ 8 (some ⟨W7.heap.size, 0, none⟩) 1 1 0 (some ⟨W7.heap.size + 1, 0, none⟩) 1 1 0 ((W7.alloc (.cells #[.int .i64 (-10)] 3)).alloc (.cells #[.int .i64 0] 3))).mono ?_
 rintro e W8 ⟨rfl, hb⟩
 have RL8 := aM_ (RA7.out.below hb)
 have HB8 := aM_ (da_ BA7.out hb)
 clear hb RA7 BA7 RL7 HB7
 generalize W7.heap.size = s7 at *
 have h8 : RLits W8 w.heap.size [((⟨1, [(-1), (-51), (-1), (-51), (-1)], ⟨1, (um_ (o : Int))⟩, 1⟩ : db_), s0, pa), ((⟨1, [(-1), (-52), (-1), (-52), (-1)], ⟨1, [0, 2, 4]⟩, 0⟩ : db_), s1, s1 + 1), ((⟨1, [(-1), (-2), (-1)], ⟨1, [2, 1, 0]⟩, 0⟩ : db_), s2, s2 + 1), ((⟨1, [(-2), (-1)], ⟨2, [0, 1]⟩, 2⟩ : db_), s3, s3 + 1), ((⟨1, [8, (-4), (-5)], ⟨6, [0, 1, 2]⟩, 1⟩ : db_), s4, s4 + 1), ((⟨1, [(-3)], ⟨7, [0]⟩, 1⟩ : db_), s5, s5 + 1), ((⟨8, [(-1)], ⟨0, [0]⟩, 0⟩ : db_), s6, s6 + 1), ((⟨8, [(-10)], ⟨0, [0]⟩, 0⟩ : db_), s7, s7 + 1)] := RL8.out
 have hS := qt_ _ h8 HB8.out.size (by simp [HDL.out]) Tt_
 simp only [List.flatMap_cons, List.flatMap_nil, encR, List.cons_append, List.nil_append, List.append_nil, HDL.out, List.length_cons, List.length_nil, Nat.zero_add, Nat.reduceAdd, List.map_cons, List.map_nil] at hS
 have HS := aM_ hS
 have HB9 := aM_ (aa_ HB8.out (.cells #[] 3))
 clear hS h8
 go_wp2
 go_ret
 exact ⟨_, rfl, HS.out, aa_ HB8.out _⟩
noncomputable def l5_dates.f (a : Int) : Option (List db_) := some (lf_ (a % 3))
theorem l5_dates.calls (a : Int) (r : List db_) (w : World) (h : l5_dates.f a = some r) : Calls Tryz.prog 27 #[.int .i64 a] w fun e w' => ∃ v0_ : Value, e = .returned (v0_) ∧ Kd.S k56 56 w' w.heap.size (fun _ => True) v0_ r ∧ Below w.heap.size w w' := by
 obtain rfl := Option.some.inj h
 exact jl_ a w
end Go.Proofs.YtiocgaekoeekgaaGreat.P
end
