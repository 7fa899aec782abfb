/- Names are of small letters, digits and dashes, and no two are one: the program and the document tell alike of any two names. Part 5: contracts of the functions that the law reaches, and words for them. -/
import Derived.WalkSpells
import Derived.Defers
import Derived.Recover
import Derived.Test.YtiocgaekoeekgaaGreatMBN4
section
namespace Go.Proofs.YtiocgaekoeekgaaGreat.P
open Go.RowKit Go.Proofs.YtiocgaekoeekgaaGreatW.PrintWords Go.Proofs.YtiocgaekoeekgaaGreatW.PrintLast Go.Proofs.YtiocgaekoeekgaaGreatW.PrintMore
attribute [local go_sem] max2_int min2_int max_two min_two max_three min_three max_four min_four   
set_option linter.unusedVariables false
set_option linter.unusedSimpArgs false
attribute [local go_sem] Oper.semAt_some
def style8 (s : S52) : List Int := nums8 [s.f0] ++ list8 part8 s.f1
def loc8 (x : S44) : List Int := txt8 x.f0 ++ nums8 [x.f1, x.f2] ++ list8 ent8 x.f3 ++ list8 rule8 x.f4 ++ list8 style8 x.f5
set_option maxHeartbeats 4000000 in
set_option maxRecDepth 100000 in
theorem style5_walk (w0 : World) (g : Nat) (bs : List Int) (x : S52) (A1 : Option Addr) (c1 : Nat) (W : World) (h : WrAt w0 g bs W) (hr1 : Kd.C k48 w0 A1 x.f1.length x.f1) (hc1 : x.f1.length ≤ c1) (hlen : bs.length + (style8 x).length ≤ 1000000000000) :
  Calls Tryz.prog 81 #[.pointer (some ⟨g, 0, none⟩), .agg #[.int .i64 x.f0, .slice A1 x.f1.length c1]] W fun e W' => e = .returned (.tuple #[]) ∧ WrAt w0 g (bs ++ style8 x) W' ∧ Kept8 g W W' := by
 have hl0 : (style8 x).length = 8 + (list8 part8 x.f1).length := by unfold style8; rw [List.length_append, nums8_len]; rfl
 rw [hl0] at hlen
 obtain ⟨D0, hD0⟩ : ∃ D, D = bs := ⟨_, rfl⟩
 have HE : Aside0 (bs ++ style8 x = D0 ++ nums8 [x.f0] ++ list8 part8 x.f1) := ⟨by rw [hD0]; unfold style8; simp only [List.append_assoc]⟩
 have hd0 : D0.length = bs.length := by rw [hD0]
 rw [← hD0] at h
 have HB0 : Aside0 ((W.alloc (.cells #[.int .i64 x.f0, .slice A1 x.f1.length c1] 52)).heap[W.heap.size]? = some (.cells #[.int .i64 x.f0, .slice A1 x.f1.length c1] 52 (0, 0))) := ⟨blk_new W _⟩
 have HW0 : Aside0 (WrAt w0 g D0 (W.alloc (.cells #[.int .i64 x.f0, .slice A1 x.f1.length c1] 52))) := ⟨h.grow (below_alloc (Below.refl _ _) _)⟩
 have HK0 : Aside0 (Kept8 g W (W.alloc (.cells #[.int .i64 x.f0, .slice A1 x.f1.length c1] 52))) := ⟨Kept8.below (below_alloc (Below.refl _ _) _)⟩
 have hgb : W.heap.size ≠ g := by obtain ⟨_, _, hb, _⟩ := h.row; have := blk_lt hb; omega
 have HGB := Aside0.mk hgb
 clear hgb
 have HLN := Aside0.mk hlen
 have HD0 := Aside0.mk hd0
 clear h hl0 hD0 hlen hd0
 have hmf : ∀ (fn : Fn) (first cap : Array Value) (w : World), (Instr.makeFunc fn first cap).run Tryz.prog w = .ok (.func fn first cap) w := fun _ _ _ _ => rfl
 go_enter Tryz.func81, Tryz.ntmps81
 go_wp2_with fail
 have hnum := number_lit w0 g D0 [x.f0] (W.alloc (.cells #[.int .i64 x.f0, .slice A1 x.f1.length c1] 52)) HW0.out (by simp) (by rw [HD0.out]; have := HLN.out; first | omega | (simp only [List.length_cons, List.length_nil, Nat.zero_add, Nat.reduceAdd]; omega))
 rw [show (W.alloc (.cells #[.int .i64 x.f0, .slice A1 x.f1.length c1] 52)).heap.size = W.heap.size + 1 by simp] at hnum
 refine hnum.mono ?_
 clear hnum
 rintro e w1 ⟨rfl, hW, hK⟩
 have HD1 : Aside0 ((D0 ++ nums8 [x.f0]).length = bs.length + 8 * 1) := ⟨by first | (rw [List.length_append, HD0.out]; simp [nums8_len, txt8_len, ints8_len]; done) | rw [List.length_append, HD0.out]⟩
 generalize D0 ++ nums8 [x.f0] = D1 at *
 have HW1 := Aside0.mk hW
 have HK1 := Aside0.mk (HK0.out.trans hK)
 have HB1 := Aside0.mk (hK _ _ HB0.out HGB.out (fun cs z e => by injection e with _ e; exact absurd e (by decide)))
 clear hW hK HW0 HK0 HB0
 have hc1_0 := blk_cell HB1.out 0
 have hc1_1 := blk_cell HB1.out 1
 go_wp2_with fail
 refine (listP_walk w0 g D1 A1 c1 x.f1 w1 HW1.out hr1 hc1 (by rw [HD1.out]; have := HLN.out; first | omega | (simp only [List.length_cons, List.length_nil, Nat.zero_add, Nat.reduceAdd]; omega))).mono ?_
 rintro e w2 ⟨rfl, hW, hK⟩
 have HD2 : Aside0 ((D1 ++ list8 part8 x.f1).length = bs.length + 8 * 1 + (list8 part8 x.f1).length) := ⟨by first | (rw [List.length_append, HD1.out]; simp [nums8_len, txt8_len, ints8_len]; done) | rw [List.length_append, HD1.out]⟩
 generalize D1 ++ list8 part8 x.f1 = D2 at *
 have HW2 := Aside0.mk hW
 have HK2 := Aside0.mk (HK1.out.trans hK)
 have HB2 := Aside0.mk (hK _ _ HB1.out HGB.out (fun cs z e => by injection e with _ e; exact absurd e (by decide)))
 clear hW hK HW1 HK1 HB1
 clear hc1_0 hc1_1
 go_wp2
 go_end0
 exact ⟨rfl, by rw [HE.out]; exact HW2.out, HK2.out⟩
set_option maxHeartbeats 4000000 in
set_option maxRecDepth 100000 in
theorem listS_walk (w0 : World) (g : Nat) (bs : List Int) (A : Option Addr) (c : Nat) (l : List S52) (W : World) (h : WrAt w0 g bs W) (hr : Kd.C k52 w0 A l.length l) (hc : l.length ≤ c) (hlen : bs.length + (list8 style8 l).length ≤ 1000000000000) :
  Calls Tryz.prog 80 #[.pointer (some ⟨g, 0, none⟩), .slice A l.length c, .func (.func 81) #[.pointer (some ⟨g, 0, none⟩)] #[]] W fun e W' => e = .returned (.tuple #[]) ∧ WrAt w0 g (bs ++ list8 style8 l) W' ∧ Kept8 g W W' := by
 have hl0 : (list8 style8 l).length = 8 + (l.flatMap style8).length := by unfold list8; rw [List.length_append, nums8_len]; rfl
 rw [hl0] at hlen
 have hnum := number_lit w0 g bs [(l.length : Int)] W h (by simp) (by simp; omega)
 have HN := Aside0.mk hnum
 have HLN := Aside0.mk hlen
 have HR := Aside0.mk hr
 have hbn : l.length ≤ 9223372036854775807 := hr.2.1
 have HE : Aside0 (bs ++ list8 style8 l = bs ++ nums8 [(l.length : Int)] ++ (l.take l.length).flatMap style8) := ⟨by rw [List.take_length]; unfold list8; rw [List.append_assoc]⟩
 clear hnum h hlen hl0 hr
 go_enter Tryz.func80, Tryz.ntmps80
 go_wp2_with fail
 refine HN.out.mono ?_
 rintro e w1 ⟨rfl, hW, hK⟩
 have HD : Aside0 ((bs ++ nums8 [(l.length : Int)]).length = bs.length + 8) := ⟨by rw [List.length_append, nums8_len]; rfl⟩
 generalize bs ++ nums8 [(l.length : Int)] = D at *
 have HW0 : Aside0 (WrAt w0 g (D ++ (l.take 0).flatMap style8) w1) := ⟨by rw [List.take_zero]; show WrAt w0 g (D ++ []) w1; rw [List.append_nil]; exact hW⟩
 have HK0 := Aside0.mk hK
 clear hW hK HN
 go_wp2
 go_loopg [15] l.length (fun gg s15 wr => ∃ i : Nat, i ≤ l.length ∧ l.length - i ≤ gg ∧ s15 = .int .i64 i ∧ Aside0 (WrAt w0 g (D ++ (l.take i).flatMap style8) wr) ∧ Aside0 (Kept8 g W wr))
 case atStart => exact ⟨0, by omega, by omega, rfl, HW0, HK0⟩
 case round =>
  clear HW0 HK0
  obtain ⟨i, hi, hgg, rfl, HW, HK⟩ := hrel
  by_cases hil : i < l.length
  ·have hilz : (i : Int) < (l.length : Int) := by omega
   obtain ⟨ad, A1, c1, hA, h0, h1, l1, g1⟩ := at_T52 HR.out (i : Int) (by omega) hilz
   subst hA
   have hy : rd_T52 l (i : Int) = l[i] := by
    show l.getD (i : Int).toNat _ = _
    rw [Int.toNat_natCast, List.getD_eq_getElem?_getD, List.getElem?_eq_getElem hil]
    rfl
   have hsn := flat8_take style8 l i hil
   have hle := flat8_le style8 l i hil
   rw [← hy] at hsn hle
   generalize rd_T52 l (i : Int) = y at *
   rw [Int.toNat_natCast] at h0 h1
   replace h0 := pw_cell_below HW.out.below h0
   replace h1 := pw_cell_below HW.out.below h1
   have HSN := Aside0.mk hsn
   have hlb : (D ++ (l.take i).flatMap style8).length + (style8 y).length ≤ 1000000000000 := by rw [List.length_append, HD.out]; have := HLN.out; omega
   have HLB := Aside0.mk hlb
   have HW1 := Aside0.mk (HW.out.grow (below_alloc (Below.refl _ _) (.cells #[.int .i64 y.f0, .slice A1 y.f1.length c1] 52)))
   have HK1 := Aside0.mk (HK.out.trans (Kept8.below (g := g) (below_alloc (Below.refl wr.heap.size wr) (.cells #[.int .i64 y.f0, .slice A1 y.f1.length c1] 52))))
   obtain ⟨E, hE⟩ : ∃ E, E = D ++ (l.take i).flatMap style8 := ⟨_, rfl⟩
   rw [← hE] at HW1 HLB
   have HEE := Aside0.mk hE
   clear hy hsn hle hlb HW HK hE
   go_wp2_with fail
   refine (style5_walk w0 g E y A1 c1 _ HW1.out g1 l1 HLB.out).mono ?_
   rintro e w2 ⟨rfl, hW, hK⟩
   have HW2 : Aside0 (WrAt w0 g (D ++ (l.take (i + 1)).flatMap style8) w2) := ⟨by rw [HSN.out, ← List.append_assoc, ← HEE.out]; exact hW⟩
   have HK2 := Aside0.mk (HK1.out.trans hK)
   clear hW hK HW1 HK1 h0 h1
   go_wp2
   go_roundg (l.length - (i + 1))
   case measure => omega
   case rel => exact ⟨i + 1, by omega, by omega, by go_num, HW2, HK2⟩
  ·have he : i = l.length := by omega
   have hilz : decide ((i : Int) < (l.length : Int)) = false := by simp; omega
   rw [he] at HW
   clear he
   go_wp2
   go_end0
   exact ⟨rfl, by rw [HE.out]; exact HW.out, HK.out⟩
set_option maxHeartbeats 4000000 in
set_option maxRecDepth 100000 in
theorem locale5_walk (w0 : World) (g : Nat) (bs : List Int) (x : S44) (A3 : Option Addr) (c3 : Nat) (A4 : Option Addr) (c4 : Nat) (A5 : Option Addr) (c5 : Nat) (W : World) (h : WrAt w0 g bs W) (hr3 : Kd.C k46 w0 A3 x.f3.length x.f3) (hc3 : x.f3.length ≤ c3) (hr4 : Kd.C k56 w0 A4 x.f4.length x.f4) (hc4 : x.f4.length ≤ c4) (hr5 : Kd.C k52 w0 A5 x.f5.length x.f5) (hc5 : x.f5.length ≤ c5) (hlen : bs.length + (loc8 x).length ≤ 1000000000000) :
  Calls Tryz.prog 34 #[.pointer (some ⟨g, 0, none⟩), .agg #[.string x.f0, .int .i64 x.f1, .int .i64 x.f2, .slice A3 x.f3.length c3, .slice A4 x.f4.length c4, .slice A5 x.f5.length c5]] W fun e W' => e = .returned (.tuple #[]) ∧ WrAt w0 g (bs ++ loc8 x) W' ∧ Kept8 g W W' := by
 have hl0 : (loc8 x).length = 8 + x.f0.size + 16 + (list8 ent8 x.f3).length + (list8 rule8 x.f4).length + (list8 style8 x.f5).length := by unfold loc8; simp only [List.length_append, txt8_len, nums8_len, List.length_cons, List.length_nil]
 rw [hl0] at hlen
 obtain ⟨D0, hD0⟩ : ∃ D, D = bs := ⟨_, rfl⟩
 have HE : Aside0 (bs ++ loc8 x = D0 ++ txt8 x.f0 ++ nums8 [x.f1, x.f2] ++ list8 ent8 x.f3 ++ list8 rule8 x.f4 ++ list8 style8 x.f5) := ⟨by rw [hD0]; unfold loc8; simp only [List.append_assoc]⟩
 have hd0 : D0.length = bs.length := by rw [hD0]
 rw [← hD0] at h
 have HB0 : Aside0 ((W.alloc (.cells #[.string x.f0, .int .i64 x.f1, .int .i64 x.f2, .slice A3 x.f3.length c3, .slice A4 x.f4.length c4, .slice A5 x.f5.length c5] 44)).heap[W.heap.size]? = some (.cells #[.string x.f0, .int .i64 x.f1, .int .i64 x.f2, .slice A3 x.f3.length c3, .slice A4 x.f4.length c4, .slice A5 x.f5.length c5] 44 (0, 0))) := ⟨blk_new W _⟩
 have HW0 : Aside0 (WrAt w0 g D0 (W.alloc (.cells #[.string x.f0, .int .i64 x.f1, .int .i64 x.f2, .slice A3 x.f3.length c3, .slice A4 x.f4.length c4, .slice A5 x.f5.length c5] 44))) := ⟨h.grow (below_alloc (Below.refl _ _) _)⟩
 have HK0 : Aside0 (Kept8 g W (W.alloc (.cells #[.string x.f0, .int .i64 x.f1, .int .i64 x.f2, .slice A3 x.f3.length c3, .slice A4 x.f4.length c4, .slice A5 x.f5.length c5] 44))) := ⟨Kept8.below (below_alloc (Below.refl _ _) _)⟩
 have hgb : W.heap.size ≠ g := by obtain ⟨_, _, hb, _⟩ := h.row; have := blk_lt hb; omega
 have HGB := Aside0.mk hgb
 clear hgb
 have HLN := Aside0.mk hlen
 have HD0 := Aside0.mk hd0
 clear h hl0 hD0 hlen hd0
 have hmf : ∀ (fn : Fn) (first cap : Array Value) (w : World), (Instr.makeFunc fn first cap).run Tryz.prog w = .ok (.func fn first cap) w := fun _ _ _ _ => rfl
 go_enter Tryz.func34, Tryz.ntmps34
 go_wp2_with fail
 refine (text5_walk w0 g D0 x.f0 (W.alloc (.cells #[.string x.f0, .int .i64 x.f1, .int .i64 x.f2, .slice A3 x.f3.length c3, .slice A4 x.f4.length c4, .slice A5 x.f5.length c5] 44)) HW0.out (by rw [HD0.out]; have := HLN.out; first | omega | (simp only [List.length_cons, List.length_nil, Nat.zero_add, Nat.reduceAdd]; omega))).mono ?_
 rintro e w1 ⟨rfl, hW, hK⟩
 have HD1 : Aside0 ((D0 ++ txt8 x.f0).length = bs.length + (8 + x.f0.size)) := ⟨by first | (rw [List.length_append, HD0.out]; simp [nums8_len, txt8_len, ints8_len]; done) | rw [List.length_append, HD0.out]⟩
 generalize D0 ++ txt8 x.f0 = D1 at *
 have HW1 := Aside0.mk hW
 have HK1 := Aside0.mk (HK0.out.trans hK)
 have HB1 := Aside0.mk (hK _ _ HB0.out HGB.out (fun cs z e => by injection e with _ e; exact absurd e (by decide)))
 clear hW hK HW0 HK0 HB0
 have hc1_0 := blk_cell HB1.out 0
 have hc1_1 := blk_cell HB1.out 1
 have hc1_2 := blk_cell HB1.out 2
 have hc1_3 := blk_cell HB1.out 3
 have hc1_4 := blk_cell HB1.out 4
 have hc1_5 := blk_cell HB1.out 5
 go_wp2_with fail
 have hnum := number_lit w0 g D1 [x.f1, x.f2] w1 HW1.out (by simp) (by rw [HD1.out]; have := HLN.out; first | omega | (simp only [List.length_cons, List.length_nil, Nat.zero_add, Nat.reduceAdd]; omega))
 refine hnum.mono ?_
 clear hnum
 rintro e w2 ⟨rfl, hW, hK⟩
 have HD2 : Aside0 ((D1 ++ nums8 [x.f1, x.f2]).length = bs.length + (8 + x.f0.size) + 8 * 2) := ⟨by first | (rw [List.length_append, HD1.out]; simp [nums8_len, txt8_len, ints8_len]; done) | rw [List.length_append, HD1.out]⟩
 generalize D1 ++ nums8 [x.f1, x.f2] = D2 at *
 have HW2 := Aside0.mk hW
 have HK2 := Aside0.mk (HK1.out.trans hK)
 have HB2 := Aside0.mk (hK _ _ HB1.out HGB.out (fun cs z e => by injection e with _ e; exact absurd e (by decide)))
 clear hW hK HW1 HK1 HB1
 clear hc1_0 hc1_1 hc1_2 hc1_3 hc1_4 hc1_5
 have hc2_0 := blk_cell HB2.out 0
 have hc2_1 := blk_cell HB2.out 1
 have hc2_2 := blk_cell HB2.out 2
 have hc2_3 := blk_cell HB2.out 3
 have hc2_4 := blk_cell HB2.out 4
 have hc2_5 := blk_cell HB2.out 5
 go_wp2_with fail
 refine (listE_walk w0 g D2 A3 c3 x.f3 w2 HW2.out hr3 hc3 (by rw [HD2.out]; have := HLN.out; first | omega | (simp only [List.length_cons, List.length_nil, Nat.zero_add, Nat.reduceAdd]; omega))).mono ?_
 rintro e w3 ⟨rfl, hW, hK⟩
 have HD3 : Aside0 ((D2 ++ list8 ent8 x.f3).length = bs.length + (8 + x.f0.size) + 8 * 2 + (list8 ent8 x.f3).length) := ⟨by first | (rw [List.length_append, HD2.out]; simp [nums8_len, txt8_len, ints8_len]; done) | rw [List.length_append, HD2.out]⟩
 generalize D2 ++ list8 ent8 x.f3 = D3 at *
 have HW3 := Aside0.mk hW
 have HK3 := Aside0.mk (HK2.out.trans hK)
 have HB3 := Aside0.mk (hK _ _ HB2.out HGB.out (fun cs z e => by injection e with _ e; exact absurd e (by decide)))
 clear hW hK HW2 HK2 HB2
 clear hc2_0 hc2_1 hc2_2 hc2_3 hc2_4 hc2_5
 have hc3_0 := blk_cell HB3.out 0
 have hc3_1 := blk_cell HB3.out 1
 have hc3_2 := blk_cell HB3.out 2
 have hc3_3 := blk_cell HB3.out 3
 have hc3_4 := blk_cell HB3.out 4
 have hc3_5 := blk_cell HB3.out 5
 go_wp2_with fail
 refine (listR_walk w0 g D3 A4 c4 x.f4 w3 HW3.out hr4 hc4 (by rw [HD3.out]; have := HLN.out; first | omega | (simp only [List.length_cons, List.length_nil, Nat.zero_add, Nat.reduceAdd]; omega))).mono ?_
 rintro e w4 ⟨rfl, hW, hK⟩
 have HD4 : Aside0 ((D3 ++ list8 rule8 x.f4).length = bs.length + (8 + x.f0.size) + 8 * 2 + (list8 ent8 x.f3).length + (list8 rule8 x.f4).length) := ⟨by first | (rw [List.length_append, HD3.out]; simp [nums8_len, txt8_len, ints8_len]; done) | rw [List.length_append, HD3.out]⟩
 generalize D3 ++ list8 rule8 x.f4 = D4 at *
 have HW4 := Aside0.mk hW
 have HK4 := Aside0.mk (HK3.out.trans hK)
 have HB4 := Aside0.mk (hK _ _ HB3.out HGB.out (fun cs z e => by injection e with _ e; exact absurd e (by decide)))
 clear hW hK HW3 HK3 HB3
 clear hc3_0 hc3_1 hc3_2 hc3_3 hc3_4 hc3_5
 have hc4_0 := blk_cell HB4.out 0
 have hc4_1 := blk_cell HB4.out 1
 have hc4_2 := blk_cell HB4.out 2
 have hc4_3 := blk_cell HB4.out 3
 have hc4_4 := blk_cell HB4.out 4
 have hc4_5 := blk_cell HB4.out 5
 go_wp2_with fail
 refine (listS_walk w0 g D4 A5 c5 x.f5 w4 HW4.out hr5 hc5 (by rw [HD4.out]; have := HLN.out; first | omega | (simp only [List.length_cons, List.length_nil, Nat.zero_add, Nat.reduceAdd]; omega))).mono ?_
 rintro e w5 ⟨rfl, hW, hK⟩
 have HD5 : Aside0 ((D4 ++ list8 style8 x.f5).length = bs.length + (8 + x.f0.size) + 8 * 2 + (list8 ent8 x.f3).length + (list8 rule8 x.f4).length + (list8 style8 x.f5).length) := ⟨by first | (rw [List.length_append, HD4.out]; simp [nums8_len, txt8_len, ints8_len]; done) | rw [List.length_append, HD4.out]⟩
 generalize D4 ++ list8 style8 x.f5 = D5 at *
 have HW5 := Aside0.mk hW
 have HK5 := Aside0.mk (HK4.out.trans hK)
 have HB5 := Aside0.mk (hK _ _ HB4.out HGB.out (fun cs z e => by injection e with _ e; exact absurd e (by decide)))
 clear hW hK HW4 HK4 HB4
 clear hc4_0 hc4_1 hc4_2 hc4_3 hc4_4 hc4_5
 go_wp2
 go_end0
 exact ⟨rfl, by rw [HE.out]; exact HW5.out, HK5.out⟩
set_option maxHeartbeats 4000000 in
set_option maxRecDepth 100000 in
theorem listL_walk (w0 : World) (g : Nat) (bs : List Int) (A : Option Addr) (c : Nat) (l : List S44) (W : World) (h : WrAt w0 g bs W) (hr : Kd.C k44 w0 A l.length l) (hc : l.length ≤ c) (hlen : bs.length + (list8 loc8 l).length ≤ 1000000000000) :
  Calls Tryz.prog 33 #[.pointer (some ⟨g, 0, none⟩), .slice A l.length c, .func (.func 34) #[.pointer (some ⟨g, 0, none⟩)] #[]] W fun e W' => e = .returned (.tuple #[]) ∧ WrAt w0 g (bs ++ list8 loc8 l) W' ∧ Kept8 g W W' := by
 have hl0 : (list8 loc8 l).length = 8 + (l.flatMap loc8).length := by unfold list8; rw [List.length_append, nums8_len]; rfl
 rw [hl0] at hlen
 have hnum := number_lit w0 g bs [(l.length : Int)] W h (by simp) (by simp; omega)
 have HN := Aside0.mk hnum
 have HLN := Aside0.mk hlen
 have HR := Aside0.mk hr
 have hbn : l.length ≤ 9223372036854775807 := hr.2.1
 have HE : Aside0 (bs ++ list8 loc8 l = bs ++ nums8 [(l.length : Int)] ++ (l.take l.length).flatMap loc8) := ⟨by rw [List.take_length]; unfold list8; rw [List.append_assoc]⟩
 clear hnum h hlen hl0 hr
 go_enter Tryz.func33, Tryz.ntmps33
 go_wp2_with fail
 refine HN.out.mono ?_
 rintro e w1 ⟨rfl, hW, hK⟩
 have HD : Aside0 ((bs ++ nums8 [(l.length : Int)]).length = bs.length + 8) := ⟨by rw [List.length_append, nums8_len]; rfl⟩
 generalize bs ++ nums8 [(l.length : Int)] = D at *
 have HW0 : Aside0 (WrAt w0 g (D ++ (l.take 0).flatMap loc8) w1) := ⟨by rw [List.take_zero]; show WrAt w0 g (D ++ []) w1; rw [List.append_nil]; exact hW⟩
 have HK0 := Aside0.mk hK
 clear hW hK HN
 go_wp2
 go_loopg [15] l.length (fun gg s15 wr => ∃ i : Nat, i ≤ l.length ∧ l.length - i ≤ gg ∧ s15 = .int .i64 i ∧ Aside0 (WrAt w0 g (D ++ (l.take i).flatMap loc8) wr) ∧ Aside0 (Kept8 g W wr))
 case atStart => exact ⟨0, by omega, by omega, rfl, HW0, HK0⟩
 case round =>
  clear HW0 HK0
  obtain ⟨i, hi, hgg, rfl, HW, HK⟩ := hrel
  by_cases hil : i < l.length
  ·have hilz : (i : Int) < (l.length : Int) := by omega
   obtain ⟨ad, A3, c3, A4, c4, A5, c5, hA, h0, h1, h2, h3, h4, h5, l3, g3, l4, g4, l5, g5⟩ := at_T44 HR.out (i : Int) (by omega) hilz
   subst hA
   have hy : rd_T44 l (i : Int) = l[i] := by
    show l.getD (i : Int).toNat _ = _
    rw [Int.toNat_natCast, List.getD_eq_getElem?_getD, List.getElem?_eq_getElem hil]
    rfl
   have hsn := flat8_take loc8 l i hil
   have hle := flat8_le loc8 l i hil
   rw [← hy] at hsn hle
   generalize rd_T44 l (i : Int) = y at *
   rw [Int.toNat_natCast] at h0 h1 h2 h3 h4 h5
   replace h0 := pw_cell_below HW.out.below h0
   replace h1 := pw_cell_below HW.out.below h1
   replace h2 := pw_cell_below HW.out.below h2
   replace h3 := pw_cell_below HW.out.below h3
   replace h4 := pw_cell_below HW.out.below h4
   replace h5 := pw_cell_below HW.out.below h5
   have HSN := Aside0.mk hsn
   have hlb : (D ++ (l.take i).flatMap loc8).length + (loc8 y).length ≤ 1000000000000 := by rw [List.length_append, HD.out]; have := HLN.out; omega
   have HLB := Aside0.mk hlb
   have HW1 := Aside0.mk (HW.out.grow (below_alloc (Below.refl _ _) (.cells #[.string y.f0, .int .i64 y.f1, .int .i64 y.f2, .slice A3 y.f3.length c3, .slice A4 y.f4.length c4, .slice A5 y.f5.length c5] 44)))
   have HK1 := Aside0.mk (HK.out.trans (Kept8.below (g := g) (below_alloc (Below.refl wr.heap.size wr) (.cells #[.string y.f0, .int .i64 y.f1, .int .i64 y.f2, .slice A3 y.f3.length c3, .slice A4 y.f4.length c4, .slice A5 y.f5.length c5] 44))))
   obtain ⟨E, hE⟩ : ∃ E, E = D ++ (l.take i).flatMap loc8 := ⟨_, rfl⟩
   rw [← hE] at HW1 HLB
   have HEE := Aside0.mk hE
   clear hy hsn hle hlb HW HK hE
   go_wp2_with fail
   refine (locale5_walk w0 g E y A3 c3 A4 c4 A5 c5 _ HW1.out g3 l3 g4 l4 g5 l5 HLB.out).mono ?_
   rintro e w2 ⟨rfl, hW, hK⟩
   have HW2 : Aside0 (WrAt w0 g (D ++ (l.take (i + 1)).flatMap loc8) w2) := ⟨by rw [HSN.out, ← List.append_assoc, ← HEE.out]; exact hW⟩
   have HK2 := Aside0.mk (HK1.out.trans hK)
   clear hW hK HW1 HK1 h0 h1 h2 h3 h4 h5
   go_wp2
   go_roundg (l.length - (i + 1))
   case measure => omega
   case rel => exact ⟨i + 1, by omega, by omega, by go_num, HW2, HK2⟩
  ·have he : i = l.length := by omega
   have hilz : decide ((i : Int) < (l.length : Int)) = false := by simp; omega
   rw [he] at HW
   clear he
   go_wp2
   go_end0
   exact ⟨rfl, by rw [HE.out]; exact HW.out, HK.out⟩
end Go.Proofs.YtiocgaekoeekgaaGreat.P
end
section
namespace Go.Proofs.YtiocgaekoeekgaaGreat.P
open Go.RowKit Go.Proofs.YtiocgaekoeekgaaGreatW.PrintWords Go.Proofs.YtiocgaekoeekgaaGreatW.PrintLast Go.Proofs.YtiocgaekoeekgaaGreatW.PrintMore
attribute [local go_sem] max2_int min2_int max_two min_two max_three min_three max_four min_four   
set_option linter.unusedVariables false
set_option linter.unusedSimpArgs false
attribute [local go_sem] Oper.semAt_some
set_option maxHeartbeats 4000000 in
set_option maxRecDepth 100000 in
theorem clone_bytes (A0 : Option Addr) (c0 : Nat) (l0 : List Int) (w : World) (hr0 : Kd.C (Kd.int .u8) w A0 l0.length l0) (hc0 : l0.length ≤ c0) (hl : l0.length ≤ 1000000000000) :
  Calls Tryz.prog 35 #[.slice A0 l0.length c0] w fun e w' => ∃ v0_ : Value, e = .returned (v0_) ∧ Kd.R (Kd.int .u8) 5 w' w.heap.size (fun _ => True) v0_ l0 ∧ Below w.heap.size w w' := by
 have q22 : ∀ (w : World) (a : Option Addr) (n c n' c' : Nat), (binOp .eql 28 (.slice a n c) (.slice none n' c')).run Tryz.prog w = .ok (.bool a.isNone) w := fun w a n c n' c' => Lib.run_eql_slice_nil w _ _ a n c n' c' Tryz.underlying28
 have HR := Aside0.mk hr0
 have HL := Aside0.mk hl
 clear hr0 hl
 cases A0 with
 | none =>
  have h0 : l0 = [] := by
   cases l0 with
   | nil => rfl
   | cons x l => obtain ⟨ad, e, _⟩ := HR.out.2.2 (by simp); cases e
  subst h0
  go_enter Tryz.func35, Tryz.ntmps35
  go_wp2
  go_ret
  exact ⟨_, rfl, Kd.R_nil _ _ _ _ _, Below.refl _ _⟩
 | some ad =>
  go_enter Tryz.func35, Tryz.ntmps35
  go_wp2_with (at_builtin; go_loud (refine Kd.R_append_row (Value.int .u8) 0 (h1 := fun _ => rfl) (w0 := w) w.heap.size rfl (.tmp 5) (.tmp 6) 28 5 (.int .u8 0) 1 rfl Tryz.underlying28 info5 rfl (by decide) (.slice (some ⟨w.heap.size, 0, none⟩) 0 0) [] l0 (some ad) l0.length c0 (fun _ => True) rfl rfl (fun _ _ => trivial) ?hO ?hR ?hB ?hb ?hl ?_); (case hO => go_loud (exact Kd.R_of_own (World.ownsRow_made w #[] 0 (Nat.le_refl _) (Nat.zero_le _) rfl) (fun _ _ => trivial))); (case hR => go_loud (exact Kd.C_alloc HR.out _)); (case hB => exact below_alloc (Below.refl _ _) _); (case hb => go_loud (simp)); (case hl => go_loud (have := HL.out; simp; omega)); intro v1 w1 ho hb hg hat)
  have ho' : Kd.R (Kd.int .u8) 5 w1 w.heap.size (fun _ => True) v1 l0 := ho
  have HO := Aside0.mk ho'
  have HB := Aside0.mk hb
  clear ho ho' hb hg hat
  go_wp2
  go_ret
  exact ⟨_, rfl, HO.out, HB.out⟩
def enc8 (l : List S44) : List Int := list8 loc8 l
set_option maxHeartbeats 4000000 in
set_option maxRecDepth 100000 in
theorem encode5_walk (A : Option Addr) (c : Nat) (l : List S44) (w : World) (hr : Kd.C k44 w A l.length l) (hc : l.length ≤ c) (hlen : (enc8 l).length ≤ 1000000000000) :
  Calls Tryz.prog 14 #[.slice A l.length c] w fun e w' => ∃ v : Value, e = .returned v ∧ Kd.R (Kd.int .u8) 5 w' w.heap.size (fun _ => True) v (enc8 l) ∧ Below w.heap.size w w' := by
 have hmf : ∀ (fn : Fn) (first cap : Array Value) (w : World), (Instr.makeFunc fn first cap).run Tryz.prog w = .ok (.func fn first cap) w := fun _ _ _ _ => rfl
 have HW0 : Aside0 (WrAt w w.heap.size [] (w.alloc (.cells #[.slice none 0 0] 76))) := ⟨⟨⟨none, 0, blk_new w _, Kd.R_nil _ _ _ _ _⟩, below_alloc (Below.refl _ _) _, Nat.le_refl _⟩⟩
 have HL := Aside0.mk (listL_walk w w.heap.size [] A c l _ HW0.out hr hc (by show 0 + _ ≤ _; rw [Nat.zero_add]; exact hlen))
 have HLN := Aside0.mk hlen
 clear hr hlen
 go_enter Tryz.func14, Tryz.ntmps14
 go_wp2_with fail
 refine HL.out.mono ?_
 rintro e w1 ⟨rfl, hW, _⟩
 have hW' : WrAt w w.heap.size (enc8 l) w1 := hW
 obtain ⟨A', c', hblk, hrow⟩ := hW'.row
 have r0 : w1.cell? ⟨w.heap.size, 0, none⟩ = some (.slice A' (enc8 l).length c') := blk_cell hblk 0
 have HB := Aside0.mk hW'.below
 have hrr := Kd.R_reads' hrow
 have HCL := Aside0.mk (clone_bytes A' c' (enc8 l) w1 hrr.2.2 hrr.2.1 HLN.out)
 clear hW hW' hblk hrow hrr HL
 go_wp2_with fail
 refine HCL.out.mono ?_
 rintro e w2 ⟨v, rfl, hR, hB2⟩
 have HR2 := Aside0.mk (Kd.R_lower hR HB.out.size)
 have HB2 := Aside0.mk (below_step HB.out hB2)
 clear hR hB2
 go_wp2
 go_ret
 exact ⟨_, rfl, HR2.out, HB2.out⟩
end Go.Proofs.YtiocgaekoeekgaaGreat.P
end
section
namespace Go.Proofs.YtiocgaekoeekgaaGreat.P
open Go.RowKit Go.Proofs.YtiocgaekoeekgaaGreatW.PrintWords Go.Proofs.YtiocgaekoeekgaaGreatW.PrintLast Go.Proofs.YtiocgaekoeekgaaGreatW.PrintMore
attribute [local go_sem] max2_int min2_int max_two min_two max_three min_three max_four min_four   
set_option linter.unusedVariables false
set_option linter.unusedSimpArgs false
attribute [local go_sem] Oper.semAt_some
set_option maxHeartbeats 16000000 in
set_option maxRecDepth 100000 in
theorem locale5r_w (w0 : World) (v0 : Value) (bs : List Int) (x : S44) (A3 A4 A5 : Option Addr) (c3 c4 c5 : Nat) (W : World) (h : Row5 w0 v0 bs W) (hr3 : Kd.C k46 w0 A3 x.f3.length x.f3) (hc3 : x.f3.length ≤ c3) (h4 : x.f4 = []) (h5 : x.f5 = []) (hl : bs.length + (loc8 x).length ≤ 1000000000000) :
  Calls Tryz.prog 50 #[v0, .agg #[.string x.f0, .int .i64 x.f1, .int .i64 x.f2, .slice A3 x.f3.length c3, .slice A4 0 c4, .slice A5 0 c5]] W fun e W' => ∃ v', e = .returned v' ∧ Row5 w0 v' (bs ++ loc8 x) W' ∧ KeptT W W' := by
 obtain ⟨f0, f1, f2, f3, f4, f5⟩ := x
 simp only at h4 h5 hr3 hc3
 subst h4
 subst h5
 have hE8 : loc8 ⟨f0, f1, f2, f3, [], []⟩ = txt8 f0 ++ num8 f1 ++ num8 f2 ++ num8 f3.length ++ f3.flatMap ent8 ++ num8 0 ++ num8 0 := by
  unfold loc8 list8 nums8
  simp
 have hLen : bs.length + ((txt8 f0).length + 8 + 8 + 8 + (f3.flatMap ent8).length + 8 + 8) ≤ 1000000000000 := by
  rw [hE8] at hl
  simp only [List.length_append, num8_len] at hl
  omega
 have HE8 : Aside0 (bs ++ loc8 ⟨f0, f1, f2, f3, [], []⟩ = (bs ++ txt8 f0 ++ num8 f1 ++ num8 f2 ++ num8 f3.length) ++ (f3.take f3.length).flatMap ent8 ++ num8 0 ++ num8 0) := ⟨by rw [hE8, List.take_length]; simp only [List.append_assoc]⟩
 generalize bs ++ loc8 ⟨f0, f1, f2, f3, [], []⟩ = Z at *
 have HLN := Aside0.mk hLen
 have HC := Aside0.mk hr3
 have hbn : f3.length ≤ 9223372036854775807 := hr3.2.1
 have hu1 := Tryz.underlying44
 have hu2 := Tryz.underlying46
 have HKW : Aside0 (KeptT W (W.alloc (.cells #[.string f0, .int .i64 f1, .int .i64 f2, .slice A3 f3.length c3, .slice A4 0 c4, .slice A5 0 c5] 44))) := ⟨KeptT.below (below_alloc (Below.refl _ _) _)⟩
 have HR0 : Aside0 (Row5 w0 v0 bs (W.alloc (.cells #[.string f0, .int .i64 f1, .int .i64 f2, .slice A3 f3.length c3, .slice A4 0 c4, .slice A5 0 c5] 44))) := ⟨⟨Kd.R_alloc h.1 _, below_step h.2 (below_alloc (Below.refl _ _) _)⟩⟩
 have HBK : Aside0 ((W.alloc (.cells #[.string f0, .int .i64 f1, .int .i64 f2, .slice A3 f3.length c3, .slice A4 0 c4, .slice A5 0 c5] 44)).heap[W.heap.size]? = some (.cells #[.string f0, .int .i64 f1, .int .i64 f2, .slice A3 f3.length c3, .slice A4 0 c4, .slice A5 0 c5] 44 (0, 0))) := ⟨blk_new W _⟩
 have HL0 : Aside0 (bs.length + (txt8 f0).length ≤ 1000000000000) := ⟨by omega⟩
 have HL1 : Aside0 ((bs ++ txt8 f0).length + 8 ≤ 1000000000000) := ⟨by simp only [List.length_append]; omega⟩
 have HL2 : Aside0 ((bs ++ txt8 f0 ++ num8 f1).length + 8 ≤ 1000000000000) := ⟨by simp only [List.length_append, num8_len]; omega⟩
 have HL3 : Aside0 ((bs ++ txt8 f0 ++ num8 f1 ++ num8 f2).length + 8 ≤ 1000000000000) := ⟨by simp only [List.length_append, num8_len]; omega⟩
 have HD : Aside0 ((bs ++ txt8 f0 ++ num8 f1 ++ num8 f2 ++ num8 f3.length).length + (f3.flatMap ent8).length + 16 ≤ 1000000000000) := ⟨by simp only [List.length_append, num8_len]; omega⟩
 clear h hr3 hc3 hl hLen hE8
 go_enter Tryz.func50, Tryz.ntmps50
 go_wp2_with fail
 generalize W.alloc (.cells #[.string f0, .int .i64 f1, .int .i64 f2, .slice A3 f3.length c3, .slice A4 0 c4, .slice A5 0 c5] 44) = W1 at *
 generalize W.heap.size = g at *
 have h0 : W1.cell? ⟨g, 0, none⟩ = some (.string f0) := blk_cell HBK.out 0
 have h1 : W1.cell? ⟨g, 1, none⟩ = some (.int .i64 f1) := blk_cell HBK.out 1
 have h2 : W1.cell? ⟨g, 2, none⟩ = some (.int .i64 f2) := blk_cell HBK.out 2
 have h3 : W1.cell? ⟨g, 3, none⟩ = some (.slice A3 f3.length c3) := blk_cell HBK.out 3
 have HK0 : Aside0 (KeptT W W1) := HKW
 refine start_ (n := 15) (S := fun w' => w'.cell? ⟨g, 0, none⟩ = some (.string f0) ∧ w'.cell? ⟨g, 1, none⟩ = some (.int .i64 f1) ∧ w'.cell? ⟨g, 2, none⟩ = some (.int .i64 f2) ∧ w'.cell? ⟨g, 3, none⟩ = some (.slice A3 f3.length c3) ∧ Aside0 (w'.heap[g]? = some (.cells #[.string f0, .int .i64 f1, .int .i64 f2, .slice A3 f3.length c3, .slice A4 0 c4, .slice A5 0 c5] 44 (0, 0)))) (ds := []) (f_ 15 0) (by kernel_rfl) rfl rfl ⟨h0, h1, h2, h3, HBK⟩ (fun hHeld => ?_)
 replace HR0 : Aside0 (Row5 w0 v0 bs W1.drew) := ⟨⟨Kd.R_drew HR0.out.1, below_drew1 HR0.out.2⟩⟩
 replace HK0 : Aside0 (KeptT W W1.drew) := ⟨HK0.out⟩
 generalize W1.drew = w9 at *
 refine pure_ (i := 0) (N := some 11) (v := ?_) (a' := ?_) (f_ 15 1) rfl rfl (by kernel_rfl) (fun _ _ _ h => h) (Or.inl ⟨by rfl, ?_⟩) ?_ ?_
 rotate_left
 ·intro w'
  go_simp
  try with_reducible rfl
 rotate_left
 ·simp only [Act.put, s1_, s2_, s3_, i64_w, i32_w]
  rfl
 refine pure_ (i := 1) (N := some 12) (v := ?_) (a' := ?_) (f_ 15 2) rfl rfl (by kernel_rfl) (fun _ _ _ h => h) (Or.inl ⟨by rfl, ?_⟩) ?_ ?_
 rotate_left
 ·intro w'
  go_simp
  try with_reducible rfl
 rotate_left
 ·simp only [Act.put, s1_, s2_, s3_, i64_w, i32_w]
  rfl
 refine take_ (i := 2) (N := some 13) (v := ?_) (a' := ?_) (f_ 15 3) rfl rfl (by kernel_rfl) (fun _ _ _ h => h) (Or.inl ⟨by rfl, ?_⟩) hHeld ?_ ?_
 rotate_left
 ·rintro w' ⟨s0, s1, s2, s3, s4⟩
  go_simp
  try with_reducible rfl
 rotate_left
 ·simp only [Act.put, s1_, s2_, s3_, i64_w, i32_w]
  rfl
 refine pure_ (i := 4) (N := some 15) (v := ?_) (a' := ?_) #[true, true, true, false, true, false, false, false, false, false, false, false, false, false, false] rfl rfl (by kernel_rfl) (fun _ _ _ h => h) (Or.inl ⟨by rfl, ?_⟩) ?_ ?_
 rotate_left
 ·intro w'
  go_simp
  try with_reducible rfl
 rotate_left
 ·simp only [Act.put, s1_, s2_, s3_, i64_w, i32_w]
  rfl
 refine take_ (i := 5) (N := some 16) (v := ?_) (a' := ?_) #[true, true, true, false, true, true, false, false, false, false, false, false, false, false, false] rfl rfl (by kernel_rfl) (fun _ _ _ h => h) (Or.inl ⟨by rfl, ?_⟩) hHeld ?_ ?_
 rotate_left
 ·rintro w' ⟨s0, s1, s2, s3, s4⟩
  go_simp
  try with_reducible rfl
 rotate_left
 ·simp only [Act.put, s1_, s2_, s3_, i64_w, i32_w]
  rfl
 refine pure_ (i := 7) (N := some 18) (v := ?_) (a' := ?_) #[true, true, true, false, true, true, false, true, false, false, false, false, false, false, false] rfl rfl (by kernel_rfl) (fun _ _ _ h => h) (Or.inl ⟨by rfl, ?_⟩) ?_ ?_
 rotate_left
 ·intro w'
  go_simp
  try with_reducible rfl
 rotate_left
 ·simp only [Act.put, s1_, s2_, s3_, i64_w, i32_w]
  rfl
 refine take_ (i := 8) (N := some 19) (v := ?_) (a' := ?_) #[true, true, true, false, true, true, false, true, true, false, false, false, false, false, false] rfl rfl (by kernel_rfl) (fun _ _ _ h => h) (Or.inl ⟨by rfl, ?_⟩) hHeld ?_ ?_
 rotate_left
 ·rintro w' ⟨s0, s1, s2, s3, s4⟩
  go_simp
  try with_reducible rfl
 rotate_left
 ·simp only [Act.put, s1_, s2_, s3_, i64_w, i32_w]
  rfl
 refine pure_ (i := 10) (N := some 21) (v := ?_) (a' := ?_) #[true, true, true, false, true, true, false, true, true, false, true, false, false, false, false] rfl rfl (by kernel_rfl) (fun _ _ _ h => h) (Or.inl ⟨by rfl, ?_⟩) ?_ ?_
 rotate_left
 ·intro w'
  go_simp
  try with_reducible rfl
 rotate_left
 ·simp only [Act.put, s1_, s2_, s3_, i64_w, i32_w]
  rfl
 refine take_ (i := 11) (N := some 22) (v := ?_) (a' := ?_) #[true, true, true, false, true, true, false, true, true, false, true, true, false, false, false] rfl rfl (by kernel_rfl) (fun _ _ _ h => h) (Or.inl ⟨by rfl, ?_⟩) hHeld ?_ ?_
 rotate_left
 ·rintro w' ⟨s0, s1, s2, s3, s4⟩
  go_simp
  try with_reducible rfl
 rotate_left
 ·simp only [Act.put, s1_, s2_, s3_, i64_w, i32_w]
  rfl
 refine pure_ (i := 12) (N := some 23) (v := ?_) (a' := ?_) #[true, true, true, false, true, true, false, true, true, false, true, true, true, false, false] rfl rfl (by kernel_rfl) (fun _ _ _ h => h) (Or.inl ⟨by rfl, ?_⟩) ?_ ?_
 rotate_left
 ·intro w'
  go_simp
  try with_reducible rfl
 rotate_left
 ·simp only [Act.put, s1_, s2_, s3_, i64_w, i32_w]
  rfl
 refine one_ (i := 3) (N := some 14) #[true, true, true, true, true, true, false, true, true, false, true, true, true, false, false] rfl rfl (by kernel_rfl) (by decide) (fun K hK => ?_)
 refine goes_ Tryz.func103 (by kernel_rfl) rfl #[v0, .string f0] (by rfl) rfl rfl (by (try simp only [List.map_toArray, List.map_cons, List.map_nil]); rfl) ?_
 refine (text5_w w0 v0 bs f0 _ HR0.out HL0.out).mono ?_
 rintro e w1 ⟨v1, rfl, hr, hk⟩
 have HR1 := Aside0.mk hr
 have HK1 := Aside0.mk (HK0.out.trans hk)
 refine ⟨_, rfl, ?_⟩
 refine hK.out _ _ ⟨(blk_cell (hk _ _ _ (by decide) hHeld.2.2.2.2.out) 0).trans rfl, (blk_cell (hk _ _ _ (by decide) hHeld.2.2.2.2.out) 1).trans rfl, (blk_cell (hk _ _ _ (by decide) hHeld.2.2.2.2.out) 2).trans rfl, (blk_cell (hk _ _ _ (by decide) hHeld.2.2.2.2.out) 3).trans rfl, ⟨(hk _ _ _ (by decide) hHeld.2.2.2.2.out)⟩⟩ (fun hHeld => ?_)
 clear hK K
 refine norm_ (a' := ?_) ?_ ?_
 rotate_left
 ·show Act.put _ (some 14) _ = _
  simp only [Act.put, s1_, s2_, s3_, i64_w, i32_w]
  rfl
 refine one_ (i := 6) (N := some 17) #[true, true, true, true, true, true, true, true, true, false, true, true, true, false, false] rfl rfl (by kernel_rfl) (by decide) (fun K hK => ?_)
 refine goes_ Tryz.func49 (by kernel_rfl) rfl #[v1, .int .i64 f1] (by rfl) rfl rfl (by (try simp only [List.map_toArray, List.map_cons, List.map_nil]); rfl) ?_
 refine (num5_w w0 v1 (bs ++ txt8 f0) f1 _ HR1.out HL1.out).mono ?_
 rintro e w2 ⟨v2, rfl, hr, hk⟩
 have HR2 := Aside0.mk hr
 have HK2 := Aside0.mk (HK1.out.trans hk)
 refine ⟨_, rfl, ?_⟩
 refine hK.out _ _ ⟨(blk_cell (hk _ _ _ (by decide) hHeld.2.2.2.2.out) 0).trans rfl, (blk_cell (hk _ _ _ (by decide) hHeld.2.2.2.2.out) 1).trans rfl, (blk_cell (hk _ _ _ (by decide) hHeld.2.2.2.2.out) 2).trans rfl, (blk_cell (hk _ _ _ (by decide) hHeld.2.2.2.2.out) 3).trans rfl, ⟨(hk _ _ _ (by decide) hHeld.2.2.2.2.out)⟩⟩ (fun hHeld => ?_)
 clear hK K
 refine norm_ (a' := ?_) ?_ ?_
 rotate_left
 ·show Act.put _ (some 17) _ = _
  simp only [Act.put, s1_, s2_, s3_, i64_w, i32_w]
  rfl
 refine one_ (i := 9) (N := some 20) (f_ 15 13) rfl rfl (by kernel_rfl) (by decide) (fun K hK => ?_)
 refine goes_ Tryz.func49 (by kernel_rfl) rfl #[v2, .int .i64 f2] (by rfl) rfl rfl (by (try simp only [List.map_toArray, List.map_cons, List.map_nil]); rfl) ?_
 refine (num5_w w0 v2 (bs ++ txt8 f0 ++ num8 f1) f2 _ HR2.out HL2.out).mono ?_
 rintro e w3 ⟨v3, rfl, hr, hk⟩
 have HR3 := Aside0.mk hr
 have HK3 := Aside0.mk (HK2.out.trans hk)
 refine ⟨_, rfl, ?_⟩
 refine hK.out _ _ ⟨(blk_cell (hk _ _ _ (by decide) hHeld.2.2.2.2.out) 0).trans rfl, (blk_cell (hk _ _ _ (by decide) hHeld.2.2.2.2.out) 1).trans rfl, (blk_cell (hk _ _ _ (by decide) hHeld.2.2.2.2.out) 2).trans rfl, (blk_cell (hk _ _ _ (by decide) hHeld.2.2.2.2.out) 3).trans rfl, ⟨(hk _ _ _ (by decide) hHeld.2.2.2.2.out)⟩⟩ (fun hHeld => ?_)
 clear hK K
 refine norm_ (a' := ?_) ?_ ?_
 rotate_left
 ·show Act.put _ (some 20) _ = _
  simp only [Act.put, s1_, s2_, s3_, i64_w, i32_w]
  rfl
 refine one_ (i := 13) (N := some 24) (f_ 15 14) rfl rfl (by kernel_rfl) (by decide) (fun K hK => ?_)
 refine goes_ Tryz.func49 (by kernel_rfl) rfl #[v3, .int .i64 (f3.length : Int)] (by rfl) rfl rfl (by (try simp only [List.map_toArray, List.map_cons, List.map_nil]); rfl) ?_
 refine (num5_w w0 v3 (bs ++ txt8 f0 ++ num8 f1 ++ num8 f2) f3.length _ HR3.out HL3.out).mono ?_
 rintro e w4 ⟨v4, rfl, hr, hk⟩
 have HR4 := Aside0.mk hr
 have HK4 := Aside0.mk (HK3.out.trans hk)
 refine ⟨_, rfl, ?_⟩
 refine hK.out _ _ ⟨(blk_cell (hk _ _ _ (by decide) hHeld.2.2.2.2.out) 0).trans rfl, (blk_cell (hk _ _ _ (by decide) hHeld.2.2.2.2.out) 1).trans rfl, (blk_cell (hk _ _ _ (by decide) hHeld.2.2.2.2.out) 2).trans rfl, (blk_cell (hk _ _ _ (by decide) hHeld.2.2.2.2.out) 3).trans rfl, ⟨(hk _ _ _ (by decide) hHeld.2.2.2.2.out)⟩⟩ (fun hHeld => ?_)
 clear hK K
 refine norm_ (a' := ?_) ?_ ?_
 rotate_left
 ·show Act.put _ (some 24) _ = _
  simp only [Act.put, s1_, s2_, s3_, i64_w, i32_w]
  rfl
 refine pure_ (i := 14) (N := some 0) (v := ?_) (a' := ?_) (f_ 15 15) rfl rfl (by kernel_rfl) (fun _ _ _ h => h) (Or.inl ⟨by rfl, ?_⟩) ?_ ?_
 rotate_left
 ·intro w'
  go_simp
  try with_reducible rfl
 rotate_left
 ·simp only [Act.put, s1_, s2_, s3_, i64_w, i32_w]
  rfl
 refine done_ (by kernel_rfl) ?_
 have HBK4 := hHeld.2.2.2.2
 generalize hDD : bs ++ txt8 f0 ++ num8 f1 ++ num8 f2 ++ num8 (f3.length : Int) = D at *
 have HR5 : Aside0 (Row5 w0 v4 (D ++ (f3.take 0).flatMap ent8) w4) := ⟨by rw [List.take_zero]; show Row5 w0 v4 (D ++ []) w4; rw [List.append_nil]; exact HR4.out⟩
 clear hHeld HR0 HR1 HR2 HR3 HR4 HL0 HL1 HL2 HL3 hDD h0 h1 h2 h3
 go_wp2_with fail
 go_loopg [5, 0] f3.length (fun gg s5 s0 wr => ∃ i : Nat, i ≤ f3.length ∧ f3.length - i ≤ gg ∧ s5 = .int .i64 i ∧ Aside0 (Row5 w0 s0 (D ++ (f3.take i).flatMap ent8) wr) ∧ Aside0 (wr.heap[g]? = some (.cells #[.string f0, .int .i64 f1, .int .i64 f2, .slice A3 f3.length c3, .slice A4 0 c4, .slice A5 0 c5] 44 (0, 0))) ∧ Aside0 (KeptT W wr))
 case atStart => exact ⟨0, by omega, by omega, rfl, HR5, HBK4, HK4⟩
 case round =>
  generalize u0 = v5 at *
  clear HR5 HBK4 HK0 HK1 HK2 HK3 HK4 HBK
  obtain ⟨i, hi, hgg, rfl, HR5, HBK, HK5⟩ := hrel
  by_cases hil : i < f3.length
  ·have hilz : (i : Int) < (f3.length : Int) := by omega
   obtain ⟨ad, hA, e0, e1, e2⟩ := at_T46 HC.out (i : Int) (by omega) hilz
   subst hA
   rw [Int.toNat_natCast] at e0 e1 e2
   have hy : rd_T46 f3 (i : Int) = f3[i] := by
    show f3.getD (i : Int).toNat _ = _
    rw [Int.toNat_natCast, List.getD_eq_getElem?_getD, List.getElem?_eq_getElem hil]
    rfl
   have hsn := flat8_take ent8 f3 i hil
   have hle := flat8_le ent8 f3 i hil
   rw [← hy] at hsn hle
   have he8 : ent8 (rd_T46 f3 (i : Int)) = txt8 (rd_T46 f3 (i : Int)).f0 ++ num8 (rd_T46 f3 (i : Int)).f1 ++ num8 (rd_T46 f3 (i : Int)).f2 := by unfold ent8 nums8; simp
   rw [he8] at hsn hle
   generalize (rd_T46 f3 (i : Int)).f0 = y0 at *
   generalize (rd_T46 f3 (i : Int)).f1 = y1 at *
   generalize (rd_T46 f3 (i : Int)).f2 = y2 at *
   have E0 := Aside0.mk e0
   have E1 := Aside0.mk e1
   have E2 := Aside0.mk e2
   simp only [List.length_append, num8_len] at hle
   have hxl : (D ++ (f3.take i).flatMap ent8).length + (txt8 y0).length + 16 ≤ 1000000000000 := by rw [List.length_append]; have := HD.out; omega
   have HSN : Aside0 (D ++ (f3.take (i + 1)).flatMap ent8 = D ++ (f3.take i).flatMap ent8 ++ txt8 y0 ++ num8 y1 ++ num8 y2) := ⟨by rw [hsn]; simp only [List.append_assoc]⟩
   generalize D ++ (f3.take i).flatMap ent8 = X at *
   have HL5 : Aside0 (X.length + (txt8 y0).length ≤ 1000000000000) := ⟨by omega⟩
   have HL6 : Aside0 ((X ++ txt8 y0).length + 8 ≤ 1000000000000) := ⟨by simp only [List.length_append]; omega⟩
   have HL7 : Aside0 ((X ++ txt8 y0 ++ num8 y1).length + 8 ≤ 1000000000000) := ⟨by simp only [List.length_append, num8_len]; omega⟩
   have hc3 : wr.cell? ⟨g, 3, none⟩ = some (.slice (some ad) f3.length c3) := blk_cell HBK.out 3
   have he0 := pw_cell_below HR5.out.2 e0
   have he1 := pw_cell_below HR5.out.2 e1
   have he2 := pw_cell_below HR5.out.2 e2
   clear hy hsn hle he8 hxl e0 e1 e2
   go_wp2_with fail
   refine start_ (n := 23) (S := fun w' => w'.cell? ⟨g, 3, none⟩ = some (.slice (some ad) f3.length c3) ∧ w'.cell? (ad.add (i * 3)) = some (.string y0) ∧ w'.cell? ⟨(ad.add (i * 3)).block, (ad.add (i * 3)).off + 1, none⟩ = some (.int .i64 y1) ∧ w'.cell? ⟨(ad.add (i * 3)).block, (ad.add (i * 3)).off + 2, none⟩ = some (.int .i64 y2) ∧ Aside0 (w'.heap[g]? = some (.cells #[.string f0, .int .i64 f1, .int .i64 f2, .slice (some ad) f3.length c3, .slice A4 0 c4, .slice A5 0 c5] 44 (0, 0)))) (ds := []) (f_ 23 0) (by kernel_rfl) rfl rfl ⟨hc3, he0, he1, he2, HBK⟩ (fun hHeld => ?_)
   replace HR5 : Aside0 (Row5 w0 v5 X wr.drew) := ⟨⟨Kd.R_drew HR5.out.1, below_drew1 HR5.out.2⟩⟩
   replace HK5 : Aside0 (KeptT W wr.drew) := ⟨HK5.out⟩
   generalize wr.drew = w9 at *
   refine pure_ (i := 0) (N := some 32) (v := ?_) (a' := ?_) (f_ 23 1) rfl rfl (by kernel_rfl) (fun _ _ _ h => h) (Or.inl ⟨by rfl, ?_⟩) ?_ ?_
   rotate_left
   ·intro w'
    go_simp
    try with_reducible rfl
   rotate_left
   ·simp only [Act.put, s1_, s2_, s3_, i64_w, i32_w]
    rfl
   refine pure_ (i := 1) (N := some 33) (v := ?_) (a' := ?_) (f_ 23 2) rfl rfl (by kernel_rfl) (fun _ _ _ h => h) (Or.inl ⟨by rfl, ?_⟩) ?_ ?_
   rotate_left
   ·intro w'
    go_simp
    try with_reducible rfl
   rotate_left
   ·simp only [Act.put, s1_, s2_, s3_, i64_w, i32_w]
    rfl
   refine take_ (i := 2) (N := some 34) (v := ?_) (a' := ?_) (f_ 23 3) rfl rfl (by kernel_rfl) (fun _ _ _ h => h) (Or.inl ⟨by rfl, ?_⟩) hHeld ?_ ?_
   rotate_left
   ·rintro w' ⟨s0, s1, s2, s3, s4⟩
    go_simp
    try with_reducible rfl
   rotate_left
   ·simp only [Act.put, s1_, s2_, s3_, i64_w, i32_w]
    rfl
   refine pure_ (i := 3) (N := some 35) (v := ?_) (a' := ?_) (f_ 23 4) rfl rfl (by kernel_rfl) (fun _ _ _ h => h) (Or.inl ⟨by rfl, ?_⟩) ?_ ?_
   rotate_left
   ·intro w'
    go_simp
    try with_reducible rfl
   rotate_left
   ·simp only [Act.put, s1_, s2_, s3_, i64_w, i32_w]
    rfl
   refine pure_ (i := 4) (N := some 36) (v := ?_) (a' := ?_) (f_ 23 5) rfl rfl (by kernel_rfl) (fun _ _ _ h => h) (Or.inl ⟨by rfl, ?_⟩) ?_ ?_
   rotate_left
   ·intro w'
    go_simp
    try with_reducible rfl
   rotate_left
   ·simp only [Act.put, s1_, s2_, s3_, i64_w, i32_w]
    rfl
   refine pure_ (i := 5) (N := some 37) (v := ?_) (a' := ?_) (f_ 23 6) rfl rfl (by kernel_rfl) (fun _ _ _ h => h) (Or.inl ⟨by rfl, ?_⟩) ?_ ?_
   rotate_left
   ·intro w'
    go_simp
    try with_reducible rfl
   rotate_left
   ·simp only [Act.put, s1_, s2_, s3_, i64_w, i32_w]
    rfl
   refine take_ (i := 6) (N := some 38) (v := ?_) (a' := ?_) (f_ 23 7) rfl rfl (by kernel_rfl) (fun _ _ _ h => h) (Or.inl ⟨by rfl, ?_⟩) hHeld ?_ ?_
   rotate_left
   ·rintro w' ⟨s0, s1, s2, s3, s4⟩
    go_simp
    try with_reducible rfl
   rotate_left
   ·simp only [Act.put, s1_, s2_, s3_, i64_w, i32_w]
    rfl
   refine pure_ (i := 8) (N := some 40) (v := ?_) (a' := ?_) #[true, true, true, true, true, true, true, false, true, false, false, false, false, false, false, false, false, false, false, false, false, false, false] rfl rfl (by kernel_rfl) (fun _ _ _ h => h) (Or.inl ⟨by rfl, ?_⟩) ?_ ?_
   rotate_left
   ·intro w'
    go_simp
    try with_reducible rfl
   rotate_left
   ·simp only [Act.put, s1_, s2_, s3_, i64_w, i32_w]
    rfl
   refine take_ (i := 9) (N := some 41) (v := ?_) (a' := ?_) #[true, true, true, true, true, true, true, false, true, true, false, false, false, false, false, false, false, false, false, false, false, false, false] rfl rfl (by kernel_rfl) (fun _ _ _ h => h) (Or.inl ⟨by rfl, ?_⟩) hHeld ?_ ?_
   rotate_left
   ·rintro w' ⟨s0, s1, s2, s3, s4⟩
    go_simp
    try with_reducible rfl
   rotate_left
   ·simp only [Act.put, s1_, s2_, s3_, i64_w, i32_w]
    rfl
   refine pure_ (i := 10) (N := some 42) (v := ?_) (a' := ?_) #[true, true, true, true, true, true, true, false, true, true, true, false, false, false, false, false, false, false, false, false, false, false, false] rfl rfl (by kernel_rfl) (fun _ _ _ h => h) (Or.inl ⟨by rfl, ?_⟩) ?_ ?_
   rotate_left
   ·intro w'
    go_simp
    try with_reducible rfl
   rotate_left
   ·simp only [Act.put, s1_, s2_, s3_, i64_w, i32_w]
    rfl
   refine pure_ (i := 11) (N := some 43) (v := ?_) (a' := ?_) #[true, true, true, true, true, true, true, false, true, true, true, true, false, false, false, false, false, false, false, false, false, false, false] rfl rfl (by kernel_rfl) (fun _ _ _ h => h) (Or.inl ⟨by rfl, ?_⟩) ?_ ?_
   rotate_left
   ·intro w'
    go_simp
    try with_reducible rfl
   rotate_left
   ·simp only [Act.put, s1_, s2_, s3_, i64_w, i32_w]
    rfl
   refine pure_ (i := 12) (N := some 44) (v := ?_) (a' := ?_) #[true, true, true, true, true, true, true, false, true, true, true, true, true, false, false, false, false, false, false, false, false, false, false] rfl rfl (by kernel_rfl) (fun _ _ _ h => h) (Or.inl ⟨by rfl, ?_⟩) ?_ ?_
   rotate_left
   ·intro w'
    go_simp
    try with_reducible rfl
   rotate_left
   ·simp only [Act.put, s1_, s2_, s3_, i64_w, i32_w]
    rfl
   refine take_ (i := 13) (N := some 45) (v := ?_) (a' := ?_) #[true, true, true, true, true, true, true, false, true, true, true, true, true, true, false, false, false, false, false, false, false, false, false] rfl rfl (by kernel_rfl) (fun _ _ _ h => h) (Or.inl ⟨by rfl, ?_⟩) hHeld ?_ ?_
   rotate_left
   ·rintro w' ⟨s0, s1, s2, s3, s4⟩
    go_simp
    try with_reducible rfl
   rotate_left
   ·simp only [Act.put, s1_, s2_, s3_, i64_w, i32_w]
    rfl
   refine pure_ (i := 15) (N := some 47) (v := ?_) (a' := ?_) #[true, true, true, true, true, true, true, false, true, true, true, true, true, true, false, true, false, false, false, false, false, false, false] rfl rfl (by kernel_rfl) (fun _ _ _ h => h) (Or.inl ⟨by rfl, ?_⟩) ?_ ?_
   rotate_left
   ·intro w'
    go_simp
    try with_reducible rfl
   rotate_left
   ·simp only [Act.put, s1_, s2_, s3_, i64_w, i32_w]
    rfl
   refine take_ (i := 16) (N := some 48) (v := ?_) (a' := ?_) #[true, true, true, true, true, true, true, false, true, true, true, true, true, true, false, true, true, false, false, false, false, false, false] rfl rfl (by kernel_rfl) (fun _ _ _ h => h) (Or.inl ⟨by rfl, ?_⟩) hHeld ?_ ?_
   rotate_left
   ·rintro w' ⟨s0, s1, s2, s3, s4⟩
    go_simp
    try with_reducible rfl
   rotate_left
   ·simp only [Act.put, s1_, s2_, s3_, i64_w, i32_w]
    rfl
   refine pure_ (i := 17) (N := some 49) (v := ?_) (a' := ?_) #[true, true, true, true, true, true, true, false, true, true, true, true, true, true, false, true, true, true, false, false, false, false, false] rfl rfl (by kernel_rfl) (fun _ _ _ h => h) (Or.inl ⟨by rfl, ?_⟩) ?_ ?_
   rotate_left
   ·intro w'
    go_simp
    try with_reducible rfl
   rotate_left
   ·simp only [Act.put, s1_, s2_, s3_, i64_w, i32_w]
    rfl
   refine pure_ (i := 18) (N := some 50) (v := ?_) (a' := ?_) #[true, true, true, true, true, true, true, false, true, true, true, true, true, true, false, true, true, true, true, false, false, false, false] rfl rfl (by kernel_rfl) (fun _ _ _ h => h) (Or.inl ⟨by rfl, ?_⟩) ?_ ?_
   rotate_left
   ·intro w'
    go_simp
    try with_reducible rfl
   rotate_left
   ·simp only [Act.put, s1_, s2_, s3_, i64_w, i32_w]
    rfl
   refine pure_ (i := 19) (N := some 51) (v := ?_) (a' := ?_) #[true, true, true, true, true, true, true, false, true, true, true, true, true, true, false, true, true, true, true, true, false, false, false] rfl rfl (by kernel_rfl) (fun _ _ _ h => h) (Or.inl ⟨by rfl, ?_⟩) ?_ ?_
   rotate_left
   ·intro w'
    go_simp
    try with_reducible rfl
   rotate_left
   ·simp only [Act.put, s1_, s2_, s3_, i64_w, i32_w]
    rfl
   refine take_ (i := 20) (N := some 52) (v := ?_) (a' := ?_) #[true, true, true, true, true, true, true, false, true, true, true, true, true, true, false, true, true, true, true, true, true, false, false] rfl rfl (by kernel_rfl) (fun _ _ _ h => h) (Or.inl ⟨by rfl, ?_⟩) hHeld ?_ ?_
   rotate_left
   ·rintro w' ⟨s0, s1, s2, s3, s4⟩
    go_simp
    try with_reducible rfl
   rotate_left
   ·simp only [Act.put, s1_, s2_, s3_, i64_w, i32_w]
    rfl
   refine one_ (i := 7) (N := some 39) #[true, true, true, true, true, true, true, true, true, true, true, true, true, true, false, true, true, true, true, true, true, false, false] rfl rfl (by kernel_rfl) (by decide) (fun K hK => ?_)
   refine goes_ Tryz.func103 (by kernel_rfl) rfl #[v5, .string y0] (by rfl) rfl rfl (by (try simp only [List.map_toArray, List.map_cons, List.map_nil]); rfl) ?_
   refine (text5_w w0 v5 X y0 _ HR5.out HL5.out).mono ?_
   rintro e w6 ⟨v6, rfl, hr, hk⟩
   have HR6 := Aside0.mk hr
   have HK6 := Aside0.mk (HK5.out.trans hk)
   refine ⟨_, rfl, ?_⟩
   refine hK.out _ _ ⟨(blk_cell (hk _ _ _ (by decide) hHeld.2.2.2.2.out) 3).trans rfl, pw_cell_below hr.2 E0.out, pw_cell_below hr.2 E1.out, pw_cell_below hr.2 E2.out, ⟨(hk _ _ _ (by decide) hHeld.2.2.2.2.out)⟩⟩ (fun hHeld => ?_)
   clear hK K
   refine norm_ (a' := ?_) ?_ ?_
   rotate_left
   ·show Act.put _ (some 39) _ = _
    simp only [Act.put, s1_, s2_, s3_, i64_w, i32_w]
    rfl
   refine one_ (i := 14) (N := some 46) (f_ 23 21) rfl rfl (by kernel_rfl) (by decide) (fun K hK => ?_)
   refine goes_ Tryz.func49 (by kernel_rfl) rfl #[v6, .int .i64 y1] (by rfl) rfl rfl (by (try simp only [List.map_toArray, List.map_cons, List.map_nil]); rfl) ?_
   refine (num5_w w0 v6 (X ++ txt8 y0) y1 _ HR6.out HL6.out).mono ?_
   rintro e w7 ⟨v7, rfl, hr, hk⟩
   have HR7 := Aside0.mk hr
   have HK7 := Aside0.mk (HK6.out.trans hk)
   refine ⟨_, rfl, ?_⟩
   refine hK.out _ _ ⟨(blk_cell (hk _ _ _ (by decide) hHeld.2.2.2.2.out) 3).trans rfl, pw_cell_below hr.2 E0.out, pw_cell_below hr.2 E1.out, pw_cell_below hr.2 E2.out, ⟨(hk _ _ _ (by decide) hHeld.2.2.2.2.out)⟩⟩ (fun hHeld => ?_)
   clear hK K
   refine norm_ (a' := ?_) ?_ ?_
   rotate_left
   ·show Act.put _ (some 46) _ = _
    simp only [Act.put, s1_, s2_, s3_, i64_w, i32_w]
    rfl
   refine one_ (i := 21) (N := some 53) (f_ 23 22) rfl rfl (by kernel_rfl) (by decide) (fun K hK => ?_)
   refine goes_ Tryz.func49 (by kernel_rfl) rfl #[v7, .int .i64 y2] (by rfl) rfl rfl (by (try simp only [List.map_toArray, List.map_cons, List.map_nil]); rfl) ?_
   refine (num5_w w0 v7 (X ++ txt8 y0 ++ num8 y1) y2 _ HR7.out HL7.out).mono ?_
   rintro e w8 ⟨v8, rfl, hr, hk⟩
   have HR8 := Aside0.mk hr
   have HK8 := Aside0.mk (HK7.out.trans hk)
   refine ⟨_, rfl, ?_⟩
   refine hK.out _ _ ⟨(blk_cell (hk _ _ _ (by decide) hHeld.2.2.2.2.out) 3).trans rfl, pw_cell_below hr.2 E0.out, pw_cell_below hr.2 E1.out, pw_cell_below hr.2 E2.out, ⟨(hk _ _ _ (by decide) hHeld.2.2.2.2.out)⟩⟩ (fun hHeld => ?_)
   clear hK K
   refine norm_ (a' := ?_) ?_ ?_
   rotate_left
   ·show Act.put _ (some 53) _ = _
    simp only [Act.put, s1_, s2_, s3_, i64_w, i32_w]
    rfl
   refine pure_ (i := 22) (N := some 0) (v := ?_) (a' := ?_) (f_ 23 23) rfl rfl (by kernel_rfl) (fun _ _ _ h => h) (Or.inl ⟨by rfl, ?_⟩) ?_ ?_
   rotate_left
   ·intro w'
    go_simp
    try with_reducible rfl
   rotate_left
   ·simp only [Act.put, s1_, s2_, s3_, i64_w, i32_w]
    rfl
   refine done_ (by kernel_rfl) ?_
   have HBK8 := hHeld.2.2.2.2
   have HR9 : Aside0 (Row5 w0 v8 (D ++ (f3.take (i + 1)).flatMap ent8) w8) := ⟨by rw [HSN.out]; exact HR8.out⟩
   clear hHeld HR5 HR6 HR7 HR8 HL5 HL6 HL7 HK5 HK6 HK7 HBK hc3 he0 he1 he2
   go_wp2
   go_roundg (f3.length - (i + 1))
   case measure => omega
   case rel => exact ⟨i + 1, by omega, by omega, by go_num, HR9, HBK8, HK8⟩
  ·have he : i = f3.length := by omega
   have hilz : decide ((i : Int) < (f3.length : Int)) = false := by simp; omega
   have hilz' : decide (i < f3.length) = false := by simp; omega
   have HX : Aside0 (Z = (D ++ (f3.take i).flatMap ent8) ++ num8 0 ++ num8 0) := ⟨by rw [HE8.out, he]⟩
   have HXL : Aside0 ((D ++ (f3.take i).flatMap ent8).length + 16 ≤ 1000000000000) := ⟨by rw [he, List.take_length, List.length_append]; have := HD.out; omega⟩
   generalize D ++ (f3.take i).flatMap ent8 = X at *
   have hc3 : wr.cell? ⟨g, 3, none⟩ = some (.slice A3 f3.length c3) := blk_cell HBK.out 3
   have hc4 : wr.cell? ⟨g, 4, none⟩ = some (.slice A4 0 c4) := blk_cell HBK.out 4
   have HN1 := Aside0.mk (num5_w w0 v5 X 0 wr HR5.out (by have := HXL.out; omega))
   clear he
   go_wp2_with fail
   refine HN1.out.mono ?_
   rintro e w5 ⟨v6, rfl, hr, hk⟩
   have HR6 := Aside0.mk hr
   have HK6 := Aside0.mk (HK5.out.trans hk)
   have HBK6 := Aside0.mk (hk _ _ _ (by decide) HBK.out)
   clear hr hk hc3 hc4 HN1 HR5 HK5 HBK
   have hc4 : w5.cell? ⟨g, 4, none⟩ = some (.slice A4 0 c4) := blk_cell HBK6.out 4
   have hc5 : w5.cell? ⟨g, 5, none⟩ = some (.slice A5 0 c5) := blk_cell HBK6.out 5
   go_wp2_with fail
   go_loopg [6, 0] 0 (fun gg s6 s0 wq => s6 = .int .i64 0 ∧ s0 = v6 ∧ Aside0 (wq = w5))
   case atStart => exact ⟨rfl, rfl, ⟨rfl⟩⟩
   case round =>
    obtain ⟨rfl, rfl, HQ⟩ := hrel
    generalize hqq : wr = w6 at *
    obtain rfl := HQ.out
    have HN2 := Aside0.mk (num5_w w0 u0 (X ++ num8 0) 0 w6 HR6.out (by rw [List.length_append, num8_len]; have := HXL.out; omega))
    clear HQ hqq
    go_wp2_with fail
    refine HN2.out.mono ?_
    rintro e w7 ⟨v7, rfl, hr, hk⟩
    have HR7 := Aside0.mk hr
    have HK7 := Aside0.mk (HK6.out.trans hk)
    have HBK7 := Aside0.mk (hk _ _ _ (by decide) HBK6.out)
    clear hr hk hc4 hc5 HN2 HR6 HK6 HBK6
    have hc5 : w7.cell? ⟨g, 5, none⟩ = some (.slice A5 0 c5) := blk_cell HBK7.out 5
    go_wp2_with fail
    go_loopg [8, 0] 0 (fun gg s8 s0 wq => s8 = .int .i64 0 ∧ s0 = v7 ∧ Aside0 (wq = w7))
    case atStart => exact ⟨rfl, rfl, ⟨rfl⟩⟩
    case round =>
     obtain ⟨rfl, rfl, HQ⟩ := hrel
     generalize hqq : wr = w8 at *
     obtain rfl := HQ.out
     clear HQ hqq
     go_wp2
     go_ret
     rw [HX.out]
     exact ⟨_, rfl, HR7.out, HK7.out⟩
end Go.Proofs.YtiocgaekoeekgaaGreat.P
end
section
namespace Go.Proofs.YtiocgaekoeekgaaGreat.P
open Go.RowKit Go.Proofs.YtiocgaekoeekgaaGreatW.PrintWords Go.Proofs.YtiocgaekoeekgaaGreatW.PrintLast Go.Proofs.YtiocgaekoeekgaaGreatW.PrintMore
attribute [local go_sem] max2_int min2_int max_two min_two max_three min_three max_four min_four   
set_option linter.unusedVariables false
set_option linter.unusedSimpArgs false
attribute [local go_sem] Oper.semAt_some
set_option maxHeartbeats 16000000 in
set_option maxRecDepth 100000 in
theorem encode5r_w (A : Option Addr) (c : Nat) (l : List S44) (w : World) (hr : Kd.C k44 w A l.length l) (hc : l.length ≤ c) (hpl : plainL l) (hl : (enc8 l).length ≤ 1000000000000) :
  Calls Tryz.prog 17 #[.slice A l.length c] w fun e w' => ∃ v, e = .returned v ∧ Kd.R (Kd.int .u8) 5 w' w.heap.size (fun _ => True) v (enc8 l) ∧ Below w.heap.size w w' := by
 have hE8 : enc8 l = num8 l.length ++ (l.take l.length).flatMap loc8 := by rw [List.take_length]; unfold enc8 list8 nums8; simp
 have hEL : 8 + (l.flatMap loc8).length ≤ 1000000000000 := by rw [hE8, List.take_length, List.length_append, num8_len] at hl; exact hl
 have HE8 := Aside0.mk hE8
 have HEL := Aside0.mk hEL
 have HC := Aside0.mk hr
 have HPL := Aside0.mk hpl
 have hbn : l.length ≤ 9223372036854775807 := hr.2.1
 generalize enc8 l = Z at *
 have HN := Aside0.mk (num5_w w (.slice none 0 0) [] l.length w ⟨Kd.R_nil _ _ _ _ _, Below.refl _ _⟩ (by simp))
 clear hE8 hEL hr hpl hl
 go_enter Tryz.func17, Tryz.ntmps17
 go_wp2_with fail
 refine HN.out.mono ?_
 rintro e w1 ⟨v1, rfl, hr, hk⟩
 have HR1 : Aside0 (Row5 w v1 (num8 l.length ++ (l.take 0).flatMap loc8) w1) := ⟨by rw [List.take_zero]; show Row5 w v1 (num8 l.length ++ []) w1; rw [List.append_nil]; exact hr⟩
 clear hr hk HN
 go_wp2_with fail
 go_loopg [4, 3] l.length (fun gg s4 s3 wr => ∃ i : Nat, i ≤ l.length ∧ l.length - i ≤ gg ∧ s4 = .int .i64 i ∧ Aside0 (Row5 w s3 (num8 l.length ++ (l.take i).flatMap loc8) wr))
 case atStart => exact ⟨0, by omega, by omega, rfl, HR1⟩
 case round =>
  clear HR1
  obtain ⟨i, hi, hgg, rfl, HR⟩ := hrel
  by_cases hil : i < l.length
  ·have hilz : (i : Int) < (l.length : Int) := by omega
   obtain ⟨ad, A3, c3, A4, c4, A5, c5, hA, h0, h1, h2, h3, h4, h5, l3, g3, l4, g4, l5, g5⟩ := at_T44 HC.out (i : Int) (by omega) hilz
   subst hA
   rw [Int.toNat_natCast] at h0 h1 h2 h3 h4 h5
   have hy : rd_T44 l (i : Int) = l[i] := by
    show l.getD (i : Int).toNat _ = _
    rw [Int.toNat_natCast, List.getD_eq_getElem?_getD, List.getElem?_eq_getElem hil]
    rfl
   have hx : (rd_T44 l (i : Int)).f4 = [] ∧ (rd_T44 l (i : Int)).f5 = [] := by rw [hy]; exact HPL.out _ (List.getElem_mem hil)
   have hsn := flat8_take loc8 l i hil
   have hle := flat8_le loc8 l i hil
   rw [← hy] at hsn hle
   generalize rd_T44 l (i : Int) = y at *
   rw [hx.1] at h4
   rw [hx.2] at h5
   have hr := HR.out.2
   replace h0 := pw_cell_below hr h0
   replace h1 := pw_cell_below hr h1
   replace h2 := pw_cell_below hr h2
   replace h3 := pw_cell_below hr h3
   replace h4 : wr.cell? ⟨(ad.add (i * 6)).block, (ad.add (i * 6)).off + 4, none⟩ = some (.slice A4 0 c4) := pw_cell_below hr h4
   replace h5 : wr.cell? ⟨(ad.add (i * 6)).block, (ad.add (i * 6)).off + 5, none⟩ = some (.slice A5 0 c5) := pw_cell_below hr h5
   have HSN : Aside0 (num8 l.length ++ (l.take (i + 1)).flatMap loc8 = num8 l.length ++ (l.take i).flatMap loc8 ++ loc8 y) := ⟨by rw [hsn, List.append_assoc]⟩
   have HLC := Aside0.mk (locale5r_w w u3 (num8 l.length ++ (l.take i).flatMap loc8) y A3 A4 A5 c3 c4 c5 wr HR.out g3 l3 hx.1 hx.2 (by rw [List.length_append, num8_len]; have := HEL.out; omega))
   clear hy hx hsn hle hr l3 g3 l4 g4 l5 g5
   go_wp2_with fail
   refine HLC.out.mono ?_
   rintro e w2 ⟨v2, rfl, hr, hk⟩
   have HR2 : Aside0 (Row5 w v2 (num8 l.length ++ (l.take (i + 1)).flatMap loc8) w2) := ⟨by rw [HSN.out]; exact hr⟩
   clear hr hk HLC HR h0 h1 h2 h3 h4 h5
   go_wp2
   go_roundg (l.length - (i + 1))
   case measure => omega
   case rel => exact ⟨i + 1, by omega, by omega, by go_num, HR2⟩
  ·have he : i = l.length := by omega
   have hilz : decide ((i : Int) < (l.length : Int)) = false := by simp; omega
   have hilz' : decide (i < l.length) = false := by simp; omega
   have HR2 : Aside0 (Row5 w u3 Z wr) := ⟨by rw [HE8.out]; rw [he] at HR; exact HR.out⟩
   clear he HR
   go_wp2
   go_ret
   exact ⟨_, rfl, HR2.out.1, HR2.out.2⟩
def same5P (a b : List S44) : Bool := (strOfNums (enc8 a)).toList == (strOfNums (enc8 b)).toList
set_option maxHeartbeats 16000000 in
set_option maxRecDepth 100000 in
theorem same5_w (A B : Option Addr) (ca cb : Nat) (la lb : List S44) (w : World) (hr1 : Kd.C k44 w A la.length la) (hc1 : la.length ≤ ca) (hp1 : plainL la) (hl1 : (enc8 la).length ≤ 1000000000000) (hr2 : Kd.C k44 w B lb.length lb) (hc2 : lb.length ≤ cb) (hp2 : plainL lb) (hl2 : (enc8 lb).length ≤ 1000000000000) :
  Calls Tryz.prog 18 #[.slice A la.length ca, .slice B lb.length cb] w fun e w' => e = .returned (.bool (same5P la lb)) ∧ Below w.heap.size w w' := by
 have HE1 : Aside0 (∀ W, Below w.heap.size w W → Calls Tryz.prog 17 #[.slice A la.length ca] W fun e w' => ∃ v, e = .returned v ∧ Kd.R (Kd.int .u8) 5 w' W.heap.size (fun _ => True) v (enc8 la) ∧ Below W.heap.size W w') := ⟨fun W hB => encode5r_w A ca la W (Kd.C_below hr1 hB) hc1 hp1 hl1⟩
 have HE2 : Aside0 (∀ W, Below w.heap.size w W → Calls Tryz.prog 17 #[.slice B lb.length cb] W fun e w' => ∃ v, e = .returned v ∧ Kd.R (Kd.int .u8) 5 w' W.heap.size (fun _ => True) v (enc8 lb) ∧ Below W.heap.size W w') := ⟨fun W hB => encode5r_w B cb lb W (Kd.C_below hr2 hB) hc2 hp2 hl2⟩
 have HS : Aside0 (same5P la lb = ((strOfNums (enc8 la)).toList == (strOfNums (enc8 lb)).toList)) := ⟨rfl⟩
 generalize same5P la lb = r at *
 generalize enc8 la = ea at *
 generalize enc8 lb = eb at *
 have HB0 : Aside0 (Below w.heap.size w w) := ⟨Below.refl _ _⟩
 clear hr1 hc1 hp1 hl1 hr2 hc2 hp2 hl2
 go_enter Tryz.func18, Tryz.ntmps18
 go_wp2_with fail
 refine start_ (n := 8) (S := fun w' => w'.heap.size = w'.heap.size ∧ Aside0 (Below w.heap.size w w')) (ds := []) (f_ 8 0) (by kernel_rfl) rfl rfl ⟨rfl, ⟨below_drew1 HB0.out⟩⟩ (fun hHeld => ?_)
 refine pure_ (i := 0) (N := some 5) (v := ?_) (a' := ?_) (f_ 8 1) rfl rfl (by kernel_rfl) (fun _ _ _ h => h) (Or.inl ⟨by rfl, ?_⟩) ?_ ?_
 rotate_left
 ·intro w'
  go_simp
  try with_reducible rfl
 rotate_left
 ·simp only [Act.put, s1_, s2_, s3_, i64_w, i32_w]
  rfl
 refine pure_ (i := 3) (N := some 8) (v := ?_) (a' := ?_) #[true, false, false, true, false, false, false, false] rfl rfl (by kernel_rfl) (fun _ _ _ h => h) (Or.inl ⟨by rfl, ?_⟩) ?_ ?_
 rotate_left
 ·intro w'
  go_simp
  try with_reducible rfl
 rotate_left
 ·simp only [Act.put, s1_, s2_, s3_, i64_w, i32_w]
  rfl
 refine one_ (i := 1) (N := some 6) #[true, true, false, true, false, false, false, false] rfl rfl (by kernel_rfl) (by decide) (fun K hK => ?_)
 refine goes_ Tryz.func17 (by kernel_rfl) rfl #[.slice A la.length ca] (by rfl) rfl rfl (by (try simp only [List.map_toArray, List.map_cons, List.map_nil]); rfl) ?_
 refine (HE1.out _ hHeld.2.out).mono ?_
 rintro e w1 ⟨v1, rfl, hr, hb⟩
 obtain ⟨S1, k1, hs1⟩ := Kd.R_slice hr
 subst hs1
 have HR1 := Aside0.mk hr
 refine ⟨_, rfl, ?_⟩
 refine hK.out _ _ ⟨rfl, ⟨below_step hHeld.2.out hb⟩⟩ (fun hHeld => ?_)
 clear hK K
 refine norm_ (a' := ?_) ?_ ?_
 rotate_left
 ·show Act.put _ (some 6) _ = _
  simp only [Act.put, s1_, s2_, s3_, i64_w, i32_w]
  rfl
 refine two_ (i := 2) (j := 4) (Ni := some 7) (Nj := some 9) (f_ 8 4) #[true, true, false, true, true, false, false, false] rfl rfl rfl rfl (by kernel_rfl) (by decide) (by decide) (fun K hK => ?_) (fun K hK => ?_)
 ·have hcv : (convert 28 9 (.slice S1 ea.length k1)).run Tryz.prog w1 = .ok (.string (strOfNums ea)) w1 := Kd.C_string Tryz.underlying28 Tryz.underlying5 Tryz.underlying9 (Kd.R_reads' HR1.out).2.2
  refine value_ (w1 := w1) (v := .string (strOfNums ea)) (by rfl) rfl ?_ ?_
  ·go_simp
  clear hcv
  refine hK.out _ _ hHeld (fun hHeld => ?_)
  clear hK K
  refine norm_ (a' := ?_) ?_ ?_
  rotate_left
  ·show Act.put _ (some 7) _ = _
   simp only [Act.put, s1_, s2_, s3_, i64_w, i32_w]
   rfl
  refine one_ (i := 4) (N := some 9) (f_ 8 5) rfl rfl (by kernel_rfl) (by decide) (fun K hK => ?_)
  refine goes_ Tryz.func17 (by kernel_rfl) rfl #[.slice B lb.length cb] (by rfl) rfl rfl (by (try simp only [List.map_toArray, List.map_cons, List.map_nil]); rfl) ?_
  refine (HE2.out _ hHeld.2.out).mono ?_
  rintro e w2 ⟨v2, rfl, hr, hb⟩
  obtain ⟨S2, k2, hs2⟩ := Kd.R_slice hr
  subst hs2
  have HR2 := Aside0.mk hr
  have HQ1 := Aside0.mk (Kd.R_below HR1.out hb)
  refine ⟨_, rfl, ?_⟩
  refine hK.out _ _ ⟨rfl, ⟨below_step hHeld.2.out hb⟩⟩ (fun hHeld => ?_)
  clear hK K
  refine norm_ (a' := ?_) ?_ ?_
  rotate_left
  ·show Act.put _ (some 9) _ = _
   simp only [Act.put, s1_, s2_, s3_, i64_w, i32_w]
   rfl
  refine one_ (i := 5) (N := some 10) (f_ 8 6) rfl rfl (by kernel_rfl) (by decide) (fun K hK => ?_)
  have hcv : (convert 28 9 (.slice S2 eb.length k2)).run Tryz.prog w2 = .ok (.string (strOfNums eb)) w2 := Kd.C_string Tryz.underlying28 Tryz.underlying5 Tryz.underlying9 (Kd.R_reads' HR2.out).2.2
  refine value_ (w1 := w2) (v := .string (strOfNums eb)) (by rfl) rfl ?_ ?_
  ·go_simp
  clear hcv
  refine hK.out _ _ hHeld (fun hHeld => ?_)
  clear hK K
  refine norm_ (a' := ?_) ?_ ?_
  rotate_left
  ·show Act.put _ (some 10) _ = _
   simp only [Act.put, s1_, s2_, s3_, i64_w, i32_w]
   rfl
  refine pure_ (i := 6) (N := some 11) (v := ?_) (a' := ?_) (f_ 8 7) rfl rfl (by kernel_rfl) (fun _ _ _ h => h) (Or.inl ⟨by rfl, ?_⟩) ?_ ?_
  rotate_left
  ·intro w'
   go_simp
   try with_reducible rfl
  rotate_left
  ·simp only [Act.put, s1_, s2_, s3_, i64_w, i32_w]
   rfl
  refine pure_ (i := 7) (N := some 4) (v := ?_) (a' := ?_) (f_ 8 8) rfl rfl (by kernel_rfl) (fun _ _ _ h => h) (Or.inl ⟨by rfl, ?_⟩) ?_ ?_
  rotate_left
  ·intro w'
   go_simp
   try with_reducible rfl
  rotate_left
  ·simp only [Act.put, s1_, s2_, s3_, i64_w, i32_w]
   rfl
  refine done_ (by kernel_rfl) ?_
  go_wp2
  go_ret
  rw [HS.out]
  exact ⟨rfl, hHeld.2.out⟩
 ·refine goes_ Tryz.func17 (by kernel_rfl) rfl #[.slice B lb.length cb] (by rfl) rfl rfl (by (try simp only [List.map_toArray, List.map_cons, List.map_nil]); rfl) ?_
  refine (HE2.out _ hHeld.2.out).mono ?_
  rintro e w2 ⟨v2, rfl, hr, hb⟩
  obtain ⟨S2, k2, hs2⟩ := Kd.R_slice hr
  subst hs2
  have HR2 := Aside0.mk hr
  have HQ1 := Aside0.mk (Kd.R_below HR1.out hb)
  refine ⟨_, rfl, ?_⟩
  refine hK.out _ _ ⟨rfl, ⟨below_step hHeld.2.out hb⟩⟩ (fun hHeld => ?_)
  clear hK K
  refine norm_ (a' := ?_) ?_ ?_
  rotate_left
  ·show Act.put _ (some 9) _ = _
   simp only [Act.put, s1_, s2_, s3_, i64_w, i32_w]
   rfl
  refine two_ (i := 2) (j := 5) (Ni := some 7) (Nj := some 10) (f_ 8 5) #[true, true, false, true, true, true, false, false] rfl rfl rfl rfl (by kernel_rfl) (by decide) (by decide) (fun K hK => ?_) (fun K hK => ?_)
  ·have hcv : (convert 28 9 (.slice S1 ea.length k1)).run Tryz.prog w2 = .ok (.string (strOfNums ea)) w2 := Kd.C_string Tryz.underlying28 Tryz.underlying5 Tryz.underlying9 (Kd.R_reads' HQ1.out).2.2
   refine value_ (w1 := w2) (v := .string (strOfNums ea)) (by rfl) rfl ?_ ?_
   ·go_simp
   clear hcv
   refine hK.out _ _ hHeld (fun hHeld => ?_)
   clear hK K
   refine norm_ (a' := ?_) ?_ ?_
   rotate_left
   ·show Act.put _ (some 7) _ = _
    simp only [Act.put, s1_, s2_, s3_, i64_w, i32_w]
    rfl
   refine one_ (i := 5) (N := some 10) (f_ 8 6) rfl rfl (by kernel_rfl) (by decide) (fun K hK => ?_)
   have hcv : (convert 28 9 (.slice S2 eb.length k2)).run Tryz.prog w2 = .ok (.string (strOfNums eb)) w2 := Kd.C_string Tryz.underlying28 Tryz.underlying5 Tryz.underlying9 (Kd.R_reads' HR2.out).2.2
   refine value_ (w1 := w2) (v := .string (strOfNums eb)) (by rfl) rfl ?_ ?_
   ·go_simp
   clear hcv
   refine hK.out _ _ hHeld (fun hHeld => ?_)
   clear hK K
   refine norm_ (a' := ?_) ?_ ?_
   rotate_left
   ·show Act.put _ (some 10) _ = _
    simp only [Act.put, s1_, s2_, s3_, i64_w, i32_w]
    rfl
   refine pure_ (i := 6) (N := some 11) (v := ?_) (a' := ?_) (f_ 8 7) rfl rfl (by kernel_rfl) (fun _ _ _ h => h) (Or.inl ⟨by rfl, ?_⟩) ?_ ?_
   rotate_left
   ·intro w'
    go_simp
    try with_reducible rfl
   rotate_left
   ·simp only [Act.put, s1_, s2_, s3_, i64_w, i32_w]
    rfl
   refine pure_ (i := 7) (N := some 4) (v := ?_) (a' := ?_) (f_ 8 8) rfl rfl (by kernel_rfl) (fun _ _ _ h => h) (Or.inl ⟨by rfl, ?_⟩) ?_ ?_
   rotate_left
   ·intro w'
    go_simp
    try with_reducible rfl
   rotate_left
   ·simp only [Act.put, s1_, s2_, s3_, i64_w, i32_w]
    rfl
   refine done_ (by kernel_rfl) ?_
   go_wp2
   go_ret
   rw [HS.out]
   exact ⟨rfl, hHeld.2.out⟩
  ·have hcv : (convert 28 9 (.slice S2 eb.length k2)).run Tryz.prog w2 = .ok (.string (strOfNums eb)) w2 := Kd.C_string Tryz.underlying28 Tryz.underlying5 Tryz.underlying9 (Kd.R_reads' HR2.out).2.2
   refine value_ (w1 := w2) (v := .string (strOfNums eb)) (by rfl) rfl ?_ ?_
   ·go_simp
   clear hcv
   refine hK.out _ _ hHeld (fun hHeld => ?_)
   clear hK K
   refine norm_ (a' := ?_) ?_ ?_
   rotate_left
   ·show Act.put _ (some 10) _ = _
    simp only [Act.put, s1_, s2_, s3_, i64_w, i32_w]
    rfl
   refine one_ (i := 2) (N := some 7) (f_ 8 6) rfl rfl (by kernel_rfl) (by decide) (fun K hK => ?_)
   have hcv : (convert 28 9 (.slice S1 ea.length k1)).run Tryz.prog w2 = .ok (.string (strOfNums ea)) w2 := Kd.C_string Tryz.underlying28 Tryz.underlying5 Tryz.underlying9 (Kd.R_reads' HQ1.out).2.2
   refine value_ (w1 := w2) (v := .string (strOfNums ea)) (by rfl) rfl ?_ ?_
   ·go_simp
   clear hcv
   refine hK.out _ _ hHeld (fun hHeld => ?_)
   clear hK K
   refine norm_ (a' := ?_) ?_ ?_
   rotate_left
   ·show Act.put _ (some 7) _ = _
    simp only [Act.put, s1_, s2_, s3_, i64_w, i32_w]
    rfl
   refine pure_ (i := 6) (N := some 11) (v := ?_) (a' := ?_) (f_ 8 7) rfl rfl (by kernel_rfl) (fun _ _ _ h => h) (Or.inl ⟨by rfl, ?_⟩) ?_ ?_
   rotate_left
   ·intro w'
    go_simp
    try with_reducible rfl
   rotate_left
   ·simp only [Act.put, s1_, s2_, s3_, i64_w, i32_w]
    rfl
   refine pure_ (i := 7) (N := some 4) (v := ?_) (a' := ?_) (f_ 8 8) rfl rfl (by kernel_rfl) (fun _ _ _ h => h) (Or.inl ⟨by rfl, ?_⟩) ?_ ?_
   rotate_left
   ·intro w'
    go_simp
    try with_reducible rfl
   rotate_left
   ·simp only [Act.put, s1_, s2_, s3_, i64_w, i32_w]
    rfl
   refine done_ (by kernel_rfl) ?_
   go_wp2
   go_ret
   rw [HS.out]
   exact ⟨rfl, hHeld.2.out⟩
end Go.Proofs.YtiocgaekoeekgaaGreat.P
end
section
namespace Go.Proofs.YtiocgaekoeekgaaGreat.P
open Go.RowKit Go.Proofs.YtiocgaekoeekgaaGreatW.PrintWords Go.Proofs.YtiocgaekoeekgaaGreatW.PrintLast Go.Proofs.YtiocgaekoeekgaaGreatW.PrintMore
attribute [local go_sem] max2_int min2_int max_two min_two max_three min_three max_four min_four   
set_option linter.unusedVariables false
set_option linter.unusedSimpArgs false
attribute [local go_sem] Oper.semAt_some
def pTimes {α : Type} (rd : Nat → Option (α × Nat)) : Nat → Nat → Option (List α × Nat)
 | 0, q => some ([], q)
 | n + 1, q => (rd q).bind fun z => (pTimes rd n z.2).map fun y => (z.1 :: y.1, y.2)
def pMany {α : Type} (rd : Nat → Option (α × Nat)) (b : List Int) (p : Nat) : Option (List α × Nat) := (pNum b p).bind fun z => if z.1 < 0 ∨ ((b.length : Int) - z.2) / 8 < z.1 then none else pTimes rd z.1.toNat z.2
theorem Kd.R_own_lt {α : Type} {d : Kd α} {e base : Nat} {ok : Nat → Prop} {w : World} {v : Value} {xs : List α} (h : d.R e w base ok v xs) {k : Nat} (hk : v.ownBlock = some k) : k < w.heap.size := by
 obtain ⟨inner, ho⟩ := Kd.R_own h
 exact own_lt ho k hk
set_option maxHeartbeats 4000000 in
set_option maxRecDepth 100000 in
theorem manyI_rd (w0 : World) (h : Nat) (A : Option Addr) (b : List Int) (c p : Nat) (W : World) (hs : Src w0 A b c) (hr : RdAt w0 h A b c p W) :
  Calls Tryz.prog 127 #[.pointer (some ⟨h, 0, none⟩), .func (.func 82) #[.pointer (some ⟨h, 0, none⟩)] #[]] W fun e W' => Rd w0 h A b c W (VR (Kd.int .i64) 3 w0 W) e W' (pMany (pNum b) b p) := by
 have HS := Aside0.mk hs
 have hlb := hs.len
 have HG : Aside0 (h < W.heap.size) := ⟨blk_lt hr.blk⟩
 have HP0 : Aside0 (pMany (pNum b) b p = (pNum b p).bind fun z => if z.1 < 0 ∨ ((b.length : Int) - z.2) / 8 < z.1 then none else pTimes (pNum b) z.1.toNat z.2) := ⟨rfl⟩
 have HQ0 := Aside0.mk (number_rd w0 h A b c p W hs hr)
 clear hs hr
 go_enter Tryz.func127, Tryz.ntmps127
 go_wp2_with fail
 refine HQ0.out.mono ?_
 intro e w1 hq
 cases hp : pNum b p with
 | none =>
  rw [hp] at hq
  obtain ⟨⟨T, v, rfl⟩, hbl⟩ := hq
  exact ⟨rfl, by rw [HP0.out, hp]; exact ⟨⟨T, v, rfl⟩, hbl⟩⟩
 | some z =>
  obtain ⟨n, q0⟩ := z
  rw [hp] at hq
  obtain ⟨⟨v, rfl, rfl⟩, hr1, hk1⟩ := hq
  have HP1 : Aside0 (pMany (pNum b) b p = if n < 0 ∨ ((b.length : Int) - q0) / 8 < n then none else pTimes (pNum b) n.toNat q0) := ⟨by rw [HP0.out, hp]; rfl⟩
  have hpos := hr1.pos
  have c0 : w1.cell? ⟨h, 0, none⟩ = some (.slice A b.length c) := blk_cell hr1.blk 0
  have c1 : w1.cell? ⟨h, 1, none⟩ = some (.int .i64 (q0 : Int)) := blk_cell hr1.blk 1
  have HR1 := Aside0.mk hr1
  have HK1 := Aside0.mk hk1
  have hw1 : wrap64 ((b.length : Int) - (q0 : Int)) = (b.length : Int) - (q0 : Int) := by rw [wrap64]; omega
  have hw2 : wrap64 (((b.length : Int) - (q0 : Int)) / 8) = ((b.length : Int) - (q0 : Int)) / 8 := by rw [wrap64]; omega
  have hdd : ((b.length : Int) - (q0 : Int)) / 8 ≤ 125000000000 := by omega
  clear hr1 hk1 hp HQ0 HP0
  by_cases hbad : n < 0 ∨ ((b.length : Int) - (q0 : Int)) / 8 < n
  ·have HPP : Aside0 (pMany (pNum b) b p = none) := ⟨by rw [HP1.out, if_pos hbad]⟩
   by_cases hn0 : n < 0
   ·have e1 : decide (n < 0) = true := decide_eq_true hn0
    clear hbad hn0
    go_wp2
    go_quiet (fail)
    go_wp2
    refine ⟨rfl, ?_⟩
    rw [HPP.out]
    exact ⟨⟨_, _, rfl⟩, below_step HR1.out.below (pw_below_drewN (Below.refl _ _) _)⟩
   ·have e1 : decide (n < 0) = false := decide_eq_false hn0
    have e2 : decide (((b.length : Int) - (q0 : Int)) / 8 < n) = true := decide_eq_true (by omega)
    clear hbad hn0
    go_wp2
    go_quiet (fail)
    go_wp2
    refine ⟨rfl, ?_⟩
    rw [HPP.out]
    exact ⟨⟨_, _, rfl⟩, below_step HR1.out.below (pw_below_drewN (Below.refl _ _) _)⟩
  ·obtain ⟨m, rfl⟩ : ∃ m : Nat, n = (m : Int) := ⟨n.toNat, by omega⟩
   have hm : m ≤ 125000000000 := by omega
   have e1 : decide ((m : Int) < 0) = false := decide_eq_false (by omega)
   have e2 : decide (((b.length : Int) - (q0 : Int)) / 8 < (m : Int)) = false := decide_eq_false (by omega)
   have HPP : Aside0 (pMany (pNum b) b p = pTimes (pNum b) m q0) := ⟨by rw [HP1.out, if_neg hbad, Int.toNat_natCast]⟩
   clear hbad HP1
   go_wp2
   go_quiet (fail)
   have HR2 : Aside0 (RdAt w0 h A b c q0 (w1.drewN nq)) := ⟨⟨HR1.out.blk, pw_below_drewN HR1.out.below _, HR1.out.ge, HR1.out.pos⟩⟩
   have HK2 : Aside0 (KeptR h W (w1.drewN nq)) := ⟨HK1.out.trans (KeptR.below (pw_below_drewN (Below.refl _ _) _))⟩
   have HR0 : Aside0 (Kd.R (Kd.int .i64) 3 (w1.drewN nq) w0.heap.size (fun k => W.heap.size ≤ k) (.slice none 0 0) []) := ⟨Kd.R_nil _ _ _ _ _⟩
   have HT0 : Aside0 (pTimes (pNum b) m q0 = (pTimes (pNum b) (m - 0) q0).map fun y => ([] ++ y.1, y.2)) := ⟨by simp⟩
   clear HR1 HK1 c0 c1
   generalize w1.drewN nq = w2 at *
   go_wp2
   go_loopg [6, 33] m (fun gg s6 s33 wr => ∃ (i : Nat) (xs : List Int) (q : Nat), i ≤ m ∧ m - i ≤ gg ∧ s33 = .int .i64 i ∧ Aside0 (xs.length = i) ∧ Aside0 (pTimes (pNum b) m q0 = (pTimes (pNum b) (m - i) q).map fun y => (xs ++ y.1, y.2)) ∧ Aside0 (Kd.R (Kd.int .i64) 3 wr w0.heap.size (fun k => W.heap.size ≤ k) s6 xs) ∧ Aside0 (RdAt w0 h A b c q wr) ∧ Aside0 (KeptR h W wr))
   case atStart => exact ⟨0, [], q0, by omega, by omega, rfl, ⟨rfl⟩, HT0, HR0, HR2, HK2⟩
   case round =>
    clear HR0 HR2 HK2 HT0
    obtain ⟨i, xs, q, hi, hgg, rfl, HL, HT, HX, HW, HK⟩ := hrel
    obtain ⟨A6, c6, hs6⟩ := Kd.R_slice HX.out
    subst hs6
    by_cases hil : i < m
    ·have hilz : (i : Int) < (m : Int) := by omega
     have HQ := Aside0.mk (number_rd w0 h A b c q wr HS.out HW.out)
     go_wp2_with fail
     refine HQ.out.mono ?_
     intro e w3 hq
     cases hp : pNum b q with
     | none =>
      rw [hp] at hq
      obtain ⟨⟨T, v, rfl⟩, hbl⟩ := hq
      exact ⟨rfl, by rw [HPP.out, HT.out, show m - i = (m - i - 1) + 1 from by omega, pTimes, hp]; exact ⟨⟨T, v, rfl⟩, hbl⟩⟩
     | some z =>
      obtain ⟨x, q1⟩ := z
      rw [hp] at hq
      obtain ⟨⟨v, rfl, rfl⟩, hr1, hk1⟩ := hq
      have hv : Kd.M (Kd.int .i64) w3 w0.heap.size (fun k => wr.heap.size ≤ k) x [.int .i64 x] := rfl
      have HT1 : Aside0 (pTimes (pNum b) m q0 = (pTimes (pNum b) (m - (i + 1)) q1).map fun y => (xs ++ [x] ++ y.1, y.2)) := ⟨by
       rw [HT.out, show m - i = (m - (i + 1)) + 1 from by omega, pTimes, hp]
       simp only [Option.bind_some, Option.map_map]
       congr 1
       funext y
       simp⟩
      have HX1 := Aside0.mk (R_keptR HX.out hk1 (fun k hk => by have := HG.out; omega))
      have HW1 := Aside0.mk hr1
      have HK1 := Aside0.mk (HK.out.trans hk1)
      have HSZ := Aside0.mk (HK.out.size HW.out)
      have HSY := Aside0.mk (hk1.size hr1)
      have hlx : xs.length ≤ 125000000000 := by rw [HL.out]; omega
      have HLX := Aside0.mk hlx
      have HOW : Aside0 (∀ k, (Value.slice A6 xs.length c6).ownBlock = some k → k < wr.heap.size) := ⟨fun k hk => Kd.R_own_lt HX.out hk⟩
      clear hp hr1 hk1 HQ hlx HT HX HK
      go_wp2_with (at_builtin; go_loud (refine Kd.R_append (Kd.int .i64) (w0 := w0) w0.heap.size rfl (.tmp 35) (.tmp 38) 35 3 (.int .i64 0) 8 rfl Tryz.underlying35 (by kernel_rfl) rfl (by show 0 < 1; decide) (by decide) (.slice A6 xs.length c6) xs x [.int .i64 x] (fun k => W.heap.size ≤ k) (fun k => wr.heap.size ≤ k) rfl rfl hv ?hok ?hf HX1.out ?hB ?hb ?hl ?_); (case hok => go_loud (exact (fun k hk => ⟨Nat.le_trans HSZ.out hk, fun e => by have := HOW.out k e.symm; omega⟩))); (case hf => go_loud (exact (fun k hk => by have := HSZ.out; have := HSY.out; omega))); (case hB => go_loud (exact HW1.out.below)); (case hb => go_loud (exact HW1.out.below.size)); (case hl => go_loud (have := HLX.out; omega)); intro v4 w4 ho hb hg hat)
      have HR5 : Aside0 (RdAt w0 h A b c q1 w4) := ⟨⟨blk_grown HW1.out.blk hg (fun e => by have := HX1.out.1 _ e.symm; have := HG.out; omega), hb, HW1.out.ge, HW1.out.pos⟩⟩
      have HK5 : Aside0 (KeptR h W w4) := ⟨fun k o hko hne => blk_grown (HK1.out k o hko hne) hg (fun e => by have := HX1.out.1 _ e.symm; have := blk_lt hko; omega)⟩
      have HX5 := Aside0.mk ho
      have HL5 : Aside0 ((xs ++ [x]).length = i + 1) := ⟨by rw [List.length_append, HL.out]; rfl⟩
      clear ho hb hg hat hv HX1 HW1 HK1 HL HOW HSZ HSY HLX
      generalize xs ++ [x] = ys at *
      obtain ⟨A7, c7, hs7⟩ := Kd.R_slice HX5.out
      subst hs7
      go_wp2
      go_roundg (m - (i + 1))
      case measure => omega
      case rel => exact ⟨i + 1, ys, q1, by omega, by omega, by go_num, HL5, HT1, HX5, HR5, HK5⟩
    ·have he : i = m := by omega
     have hilz : decide ((i : Int) < (m : Int)) = false := by simp; omega
     have HPQ : Aside0 (pMany (pNum b) b p = some (xs, q)) := ⟨by rw [HPP.out, HT.out, he, Nat.sub_self, pTimes]; simp⟩
     have HCL := Aside0.mk (cloneI A6 c6 xs wr W.heap.size w0.heap.size HX.out (HK.out.size HW.out) HW.out.below.size (by rw [HL.out]; omega))
     clear he HPP HT HL
     go_wp2_with fail
     refine HCL.out.mono ?_
     rintro e w5 ⟨v5, rfl, hR5, hB5⟩
     have HO := Aside0.mk hR5
     have HR6 : Aside0 (RdAt w0 h A b c q w5) := ⟨⟨blk_below HW.out.blk hB5, below_step HW.out.below hB5, HW.out.ge, HW.out.pos⟩⟩
     have HK6 : Aside0 (KeptR h W w5) := ⟨HK.out.trans (KeptR.below hB5)⟩
     obtain ⟨A7, c7, hs7⟩ := Kd.R_slice hR5
     subst hs7
     clear hR5 hB5 HCL
     go_wp2
     go_ret
     rw [HPQ.out]
     exact ⟨⟨_, rfl, HO.out⟩, HR6.out, HK6.out⟩
set_option maxHeartbeats 4000000 in
set_option maxRecDepth 100000 in
theorem manyE_rd (w0 : World) (h : Nat) (A : Option Addr) (b : List Int) (c p : Nat) (W : World) (hs : Src w0 A b c) (hr : RdAt w0 h A b c p W) :
  Calls Tryz.prog 85 #[.pointer (some ⟨h, 0, none⟩), .func (.func 86) #[.pointer (some ⟨h, 0, none⟩)] #[]] W fun e W' => Rd w0 h A b c W (VR k46 46 w0 W) e W' (pMany (pEnt b) b p) := by
 have HS := Aside0.mk hs
 have hlb := hs.len
 have HG : Aside0 (h < W.heap.size) := ⟨blk_lt hr.blk⟩
 have HP0 : Aside0 (pMany (pEnt b) b p = (pNum b p).bind fun z => if z.1 < 0 ∨ ((b.length : Int) - z.2) / 8 < z.1 then none else pTimes (pEnt b) z.1.toNat z.2) := ⟨rfl⟩
 have HQ0 := Aside0.mk (number_rd w0 h A b c p W hs hr)
 clear hs hr
 go_enter Tryz.func85, Tryz.ntmps85
 go_wp2_with fail
 refine HQ0.out.mono ?_
 intro e w1 hq
 cases hp : pNum b p with
 | none =>
  rw [hp] at hq
  obtain ⟨⟨T, v, rfl⟩, hbl⟩ := hq
  exact ⟨rfl, by rw [HP0.out, hp]; exact ⟨⟨T, v, rfl⟩, hbl⟩⟩
 | some z =>
  obtain ⟨n, q0⟩ := z
  rw [hp] at hq
  obtain ⟨⟨v, rfl, rfl⟩, hr1, hk1⟩ := hq
  have HP1 : Aside0 (pMany (pEnt b) b p = if n < 0 ∨ ((b.length : Int) - q0) / 8 < n then none else pTimes (pEnt b) n.toNat q0) := ⟨by rw [HP0.out, hp]; rfl⟩
  have hpos := hr1.pos
  have c0 : w1.cell? ⟨h, 0, none⟩ = some (.slice A b.length c) := blk_cell hr1.blk 0
  have c1 : w1.cell? ⟨h, 1, none⟩ = some (.int .i64 (q0 : Int)) := blk_cell hr1.blk 1
  have HR1 := Aside0.mk hr1
  have HK1 := Aside0.mk hk1
  have hw1 : wrap64 ((b.length : Int) - (q0 : Int)) = (b.length : Int) - (q0 : Int) := by rw [wrap64]; omega
  have hw2 : wrap64 (((b.length : Int) - (q0 : Int)) / 8) = ((b.length : Int) - (q0 : Int)) / 8 := by rw [wrap64]; omega
  have hdd : ((b.length : Int) - (q0 : Int)) / 8 ≤ 125000000000 := by omega
  clear hr1 hk1 hp HQ0 HP0
  by_cases hbad : n < 0 ∨ ((b.length : Int) - (q0 : Int)) / 8 < n
  ·have HPP : Aside0 (pMany (pEnt b) b p = none) := ⟨by rw [HP1.out, if_pos hbad]⟩
   by_cases hn0 : n < 0
   ·have e1 : decide (n < 0) = true := decide_eq_true hn0
    clear hbad hn0
    go_wp2
    go_quiet (fail)
    go_wp2
    refine ⟨rfl, ?_⟩
    rw [HPP.out]
    exact ⟨⟨_, _, rfl⟩, below_step HR1.out.below (pw_below_drewN (Below.refl _ _) _)⟩
   ·have e1 : decide (n < 0) = false := decide_eq_false hn0
    have e2 : decide (((b.length : Int) - (q0 : Int)) / 8 < n) = true := decide_eq_true (by omega)
    clear hbad hn0
    go_wp2
    go_quiet (fail)
    go_wp2
    refine ⟨rfl, ?_⟩
    rw [HPP.out]
    exact ⟨⟨_, _, rfl⟩, below_step HR1.out.below (pw_below_drewN (Below.refl _ _) _)⟩
  ·obtain ⟨m, rfl⟩ : ∃ m : Nat, n = (m : Int) := ⟨n.toNat, by omega⟩
   have hm : m ≤ 125000000000 := by omega
   have e1 : decide ((m : Int) < 0) = false := decide_eq_false (by omega)
   have e2 : decide (((b.length : Int) - (q0 : Int)) / 8 < (m : Int)) = false := decide_eq_false (by omega)
   have HPP : Aside0 (pMany (pEnt b) b p = pTimes (pEnt b) m q0) := ⟨by rw [HP1.out, if_neg hbad, Int.toNat_natCast]⟩
   clear hbad HP1
   go_wp2
   go_quiet (fail)
   have HR2 : Aside0 (RdAt w0 h A b c q0 (w1.drewN nq)) := ⟨⟨HR1.out.blk, pw_below_drewN HR1.out.below _, HR1.out.ge, HR1.out.pos⟩⟩
   have HK2 : Aside0 (KeptR h W (w1.drewN nq)) := ⟨HK1.out.trans (KeptR.below (pw_below_drewN (Below.refl _ _) _))⟩
   have HR0 : Aside0 (Kd.R k46 46 (w1.drewN nq) w0.heap.size (fun k => W.heap.size ≤ k) (.slice none 0 0) []) := ⟨Kd.R_nil _ _ _ _ _⟩
   have HT0 : Aside0 (pTimes (pEnt b) m q0 = (pTimes (pEnt b) (m - 0) q0).map fun y => ([] ++ y.1, y.2)) := ⟨by simp⟩
   clear HR1 HK1 c0 c1
   generalize w1.drewN nq = w2 at *
   go_wp2
   go_loopg [6, 33] m (fun gg s6 s33 wr => ∃ (i : Nat) (xs : List S46) (q : Nat), i ≤ m ∧ m - i ≤ gg ∧ s33 = .int .i64 i ∧ Aside0 (xs.length = i) ∧ Aside0 (pTimes (pEnt b) m q0 = (pTimes (pEnt b) (m - i) q).map fun y => (xs ++ y.1, y.2)) ∧ Aside0 (Kd.R k46 46 wr w0.heap.size (fun k => W.heap.size ≤ k) s6 xs) ∧ Aside0 (RdAt w0 h A b c q wr) ∧ Aside0 (KeptR h W wr))
   case atStart => exact ⟨0, [], q0, by omega, by omega, rfl, ⟨rfl⟩, HT0, HR0, HR2, HK2⟩
   case round =>
    clear HR0 HR2 HK2 HT0
    obtain ⟨i, xs, q, hi, hgg, rfl, HL, HT, HX, HW, HK⟩ := hrel
    obtain ⟨A6, c6, hs6⟩ := Kd.R_slice HX.out
    subst hs6
    by_cases hil : i < m
    ·have hilz : (i : Int) < (m : Int) := by omega
     have HQ := Aside0.mk (entry_rd w0 h A b c q wr HS.out HW.out)
     go_wp2_with fail
     refine HQ.out.mono ?_
     intro e w3 hq
     cases hp : pEnt b q with
     | none =>
      rw [hp] at hq
      obtain ⟨⟨T, v, rfl⟩, hbl⟩ := hq
      exact ⟨rfl, by rw [HPP.out, HT.out, show m - i = (m - i - 1) + 1 from by omega, pTimes, hp]; exact ⟨⟨T, v, rfl⟩, hbl⟩⟩
     | some z =>
      obtain ⟨x, q1⟩ := z
      rw [hp] at hq
      obtain ⟨⟨v, rfl, cs, rfl, hm⟩, hr1, hk1⟩ := hq
      obtain rfl := k46_openM hm
      have hv := hm
      clear hm
      have HT1 : Aside0 (pTimes (pEnt b) m q0 = (pTimes (pEnt b) (m - (i + 1)) q1).map fun y => (xs ++ [x] ++ y.1, y.2)) := ⟨by
       rw [HT.out, show m - i = (m - (i + 1)) + 1 from by omega, pTimes, hp]
       simp only [Option.bind_some, Option.map_map]
       congr 1
       funext y
       simp⟩
      have HX1 := Aside0.mk (R_keptR HX.out hk1 (fun k hk => by have := HG.out; omega))
      have HW1 := Aside0.mk hr1
      have HK1 := Aside0.mk (HK.out.trans hk1)
      have HSZ := Aside0.mk (HK.out.size HW.out)
      have HSY := Aside0.mk (hk1.size hr1)
      have hlx : xs.length ≤ 125000000000 := by rw [HL.out]; omega
      have HLX := Aside0.mk hlx
      have HOW : Aside0 (∀ k, (Value.slice A6 xs.length c6).ownBlock = some k → k < wr.heap.size) := ⟨fun k hk => Kd.R_own_lt HX.out hk⟩
      clear hp hr1 hk1 HQ hlx HT HX HK
      go_wp2_with (at_builtin; go_loud (refine Kd.R_append k46 (w0 := w0) w0.heap.size rfl (.tmp 35) (.tmp 38) 40 46 (.agg #[.string ⟨#[]⟩, .int .i64 0, .int .i64 0]) 32 rfl Tryz.underlying40 (by kernel_rfl) rfl (by show 0 < 3; decide) (by decide) (.slice A6 xs.length c6) xs x [.string x.f0, .int .i64 x.f1, .int .i64 x.f2] (fun k => W.heap.size ≤ k) (fun k => wr.heap.size ≤ k) rfl rfl hv ?hok ?hf HX1.out ?hB ?hb ?hl ?_); (case hok => go_loud (exact (fun k hk => ⟨Nat.le_trans HSZ.out hk, fun e => by have := HOW.out k e.symm; omega⟩))); (case hf => go_loud (exact (fun k hk => by have := HSZ.out; have := HSY.out; omega))); (case hB => go_loud (exact HW1.out.below)); (case hb => go_loud (exact HW1.out.below.size)); (case hl => go_loud (have := HLX.out; omega)); intro v4 w4 ho hb hg hat)
      have HR5 : Aside0 (RdAt w0 h A b c q1 w4) := ⟨⟨blk_grown HW1.out.blk hg (fun e => by have := HX1.out.1 _ e.symm; have := HG.out; omega), hb, HW1.out.ge, HW1.out.pos⟩⟩
      have HK5 : Aside0 (KeptR h W w4) := ⟨fun k o hko hne => blk_grown (HK1.out k o hko hne) hg (fun e => by have := HX1.out.1 _ e.symm; have := blk_lt hko; omega)⟩
      have HX5 := Aside0.mk ho
      have HL5 : Aside0 ((xs ++ [x]).length = i + 1) := ⟨by rw [List.length_append, HL.out]; rfl⟩
      clear ho hb hg hat hv HX1 HW1 HK1 HL HOW HSZ HSY HLX
      generalize xs ++ [x] = ys at *
      obtain ⟨A7, c7, hs7⟩ := Kd.R_slice HX5.out
      subst hs7
      go_wp2
      go_roundg (m - (i + 1))
      case measure => omega
      case rel => exact ⟨i + 1, ys, q1, by omega, by omega, by go_num, HL5, HT1, HX5, HR5, HK5⟩
    ·have he : i = m := by omega
     have hilz : decide ((i : Int) < (m : Int)) = false := by simp; omega
     have HPQ : Aside0 (pMany (pEnt b) b p = some (xs, q)) := ⟨by rw [HPP.out, HT.out, he, Nat.sub_self, pTimes]; simp⟩
     have HCL := Aside0.mk (cloneE A6 c6 xs wr W.heap.size w0.heap.size HX.out (HK.out.size HW.out) HW.out.below.size (by rw [HL.out]; omega))
     clear he HPP HT HL
     go_wp2_with fail
     refine HCL.out.mono ?_
     rintro e w5 ⟨v5, rfl, hR5, hB5⟩
     have HO := Aside0.mk hR5
     have HR6 : Aside0 (RdAt w0 h A b c q w5) := ⟨⟨blk_below HW.out.blk hB5, below_step HW.out.below hB5, HW.out.ge, HW.out.pos⟩⟩
     have HK6 : Aside0 (KeptR h W w5) := ⟨HK.out.trans (KeptR.below hB5)⟩
     obtain ⟨A7, c7, hs7⟩ := Kd.R_slice hR5
     subst hs7
     clear hR5 hB5 HCL
     go_wp2
     go_ret
     rw [HPQ.out]
     exact ⟨⟨_, rfl, HO.out⟩, HR6.out, HK6.out⟩
set_option maxHeartbeats 4000000 in
set_option maxRecDepth 100000 in
theorem manyP_rd (w0 : World) (h : Nat) (A : Option Addr) (b : List Int) (c p : Nat) (W : World) (hs : Src w0 A b c) (hr : RdAt w0 h A b c p W) :
  Calls Tryz.prog 128 #[.pointer (some ⟨h, 0, none⟩), .func (.func 129) #[.pointer (some ⟨h, 0, none⟩)] #[]] W fun e W' => Rd w0 h A b c W (VR k48 48 w0 W) e W' (pMany (pPart b) b p) := by
 have HS := Aside0.mk hs
 have hlb := hs.len
 have HG : Aside0 (h < W.heap.size) := ⟨blk_lt hr.blk⟩
 have HP0 : Aside0 (pMany (pPart b) b p = (pNum b p).bind fun z => if z.1 < 0 ∨ ((b.length : Int) - z.2) / 8 < z.1 then none else pTimes (pPart b) z.1.toNat z.2) := ⟨rfl⟩
 have HQ0 := Aside0.mk (number_rd w0 h A b c p W hs hr)
 clear hs hr
 go_enter Tryz.func128, Tryz.ntmps128
 go_wp2_with fail
 refine HQ0.out.mono ?_
 intro e w1 hq
 cases hp : pNum b p with
 | none =>
  rw [hp] at hq
  obtain ⟨⟨T, v, rfl⟩, hbl⟩ := hq
  exact ⟨rfl, by rw [HP0.out, hp]; exact ⟨⟨T, v, rfl⟩, hbl⟩⟩
 | some z =>
  obtain ⟨n, q0⟩ := z
  rw [hp] at hq
  obtain ⟨⟨v, rfl, rfl⟩, hr1, hk1⟩ := hq
  have HP1 : Aside0 (pMany (pPart b) b p = if n < 0 ∨ ((b.length : Int) - q0) / 8 < n then none else pTimes (pPart b) n.toNat q0) := ⟨by rw [HP0.out, hp]; rfl⟩
  have hpos := hr1.pos
  have c0 : w1.cell? ⟨h, 0, none⟩ = some (.slice A b.length c) := blk_cell hr1.blk 0
  have c1 : w1.cell? ⟨h, 1, none⟩ = some (.int .i64 (q0 : Int)) := blk_cell hr1.blk 1
  have HR1 := Aside0.mk hr1
  have HK1 := Aside0.mk hk1
  have hw1 : wrap64 ((b.length : Int) - (q0 : Int)) = (b.length : Int) - (q0 : Int) := by rw [wrap64]; omega
  have hw2 : wrap64 (((b.length : Int) - (q0 : Int)) / 8) = ((b.length : Int) - (q0 : Int)) / 8 := by rw [wrap64]; omega
  have hdd : ((b.length : Int) - (q0 : Int)) / 8 ≤ 125000000000 := by omega
  clear hr1 hk1 hp HQ0 HP0
  by_cases hbad : n < 0 ∨ ((b.length : Int) - (q0 : Int)) / 8 < n
  ·have HPP : Aside0 (pMany (pPart b) b p = none) := ⟨by rw [HP1.out, if_pos hbad]⟩
   by_cases hn0 : n < 0
   ·have e1 : decide (n < 0) = true := decide_eq_true hn0
    clear hbad hn0
    go_wp2
    go_quiet (fail)
    go_wp2
    refine ⟨rfl, ?_⟩
    rw [HPP.out]
    exact ⟨⟨_, _, rfl⟩, below_step HR1.out.below (pw_below_drewN (Below.refl _ _) _)⟩
   ·have e1 : decide (n < 0) = false := decide_eq_false hn0
    have e2 : decide (((b.length : Int) - (q0 : Int)) / 8 < n) = true := decide_eq_true (by omega)
    clear hbad hn0
    go_wp2
    go_quiet (fail)
    go_wp2
    refine ⟨rfl, ?_⟩
    rw [HPP.out]
    exact ⟨⟨_, _, rfl⟩, below_step HR1.out.below (pw_below_drewN (Below.refl _ _) _)⟩
  ·obtain ⟨m, rfl⟩ : ∃ m : Nat, n = (m : Int) := ⟨n.toNat, by omega⟩
   have hm : m ≤ 125000000000 := by omega
   have e1 : decide ((m : Int) < 0) = false := decide_eq_false (by omega)
   have e2 : decide (((b.length : Int) - (q0 : Int)) / 8 < (m : Int)) = false := decide_eq_false (by omega)
   have HPP : Aside0 (pMany (pPart b) b p = pTimes (pPart b) m q0) := ⟨by rw [HP1.out, if_neg hbad, Int.toNat_natCast]⟩
   clear hbad HP1
   go_wp2
   go_quiet (fail)
   have HR2 : Aside0 (RdAt w0 h A b c q0 (w1.drewN nq)) := ⟨⟨HR1.out.blk, pw_below_drewN HR1.out.below _, HR1.out.ge, HR1.out.pos⟩⟩
   have HK2 : Aside0 (KeptR h W (w1.drewN nq)) := ⟨HK1.out.trans (KeptR.below (pw_below_drewN (Below.refl _ _) _))⟩
   have HR0 : Aside0 (Kd.R k48 48 (w1.drewN nq) w0.heap.size (fun k => W.heap.size ≤ k) (.slice none 0 0) []) := ⟨Kd.R_nil _ _ _ _ _⟩
   have HT0 : Aside0 (pTimes (pPart b) m q0 = (pTimes (pPart b) (m - 0) q0).map fun y => ([] ++ y.1, y.2)) := ⟨by simp⟩
   clear HR1 HK1 c0 c1
   generalize w1.drewN nq = w2 at *
   go_wp2
   go_loopg [6, 33] m (fun gg s6 s33 wr => ∃ (i : Nat) (xs : List S48) (q : Nat), i ≤ m ∧ m - i ≤ gg ∧ s33 = .int .i64 i ∧ Aside0 (xs.length = i) ∧ Aside0 (pTimes (pPart b) m q0 = (pTimes (pPart b) (m - i) q).map fun y => (xs ++ y.1, y.2)) ∧ Aside0 (Kd.R k48 48 wr w0.heap.size (fun k => W.heap.size ≤ k) s6 xs) ∧ Aside0 (RdAt w0 h A b c q wr) ∧ Aside0 (KeptR h W wr))
   case atStart => exact ⟨0, [], q0, by omega, by omega, rfl, ⟨rfl⟩, HT0, HR0, HR2, HK2⟩
   case round =>
    clear HR0 HR2 HK2 HT0
    obtain ⟨i, xs, q, hi, hgg, rfl, HL, HT, HX, HW, HK⟩ := hrel
    obtain ⟨A6, c6, hs6⟩ := Kd.R_slice HX.out
    subst hs6
    by_cases hil : i < m
    ·have hilz : (i : Int) < (m : Int) := by omega
     have HQ := Aside0.mk (part_rd w0 h A b c q wr HS.out HW.out)
     go_wp2_with fail
     refine HQ.out.mono ?_
     intro e w3 hq
     cases hp : pPart b q with
     | none =>
      rw [hp] at hq
      obtain ⟨⟨T, v, rfl⟩, hbl⟩ := hq
      exact ⟨rfl, by rw [HPP.out, HT.out, show m - i = (m - i - 1) + 1 from by omega, pTimes, hp]; exact ⟨⟨T, v, rfl⟩, hbl⟩⟩
     | some z =>
      obtain ⟨x, q1⟩ := z
      rw [hp] at hq
      obtain ⟨⟨v, rfl, cs, rfl, hm⟩, hr1, hk1⟩ := hq
      obtain rfl := k48_openM hm
      have hv := hm
      clear hm
      have HT1 : Aside0 (pTimes (pPart b) m q0 = (pTimes (pPart b) (m - (i + 1)) q1).map fun y => (xs ++ [x] ++ y.1, y.2)) := ⟨by
       rw [HT.out, show m - i = (m - (i + 1)) + 1 from by omega, pTimes, hp]
       simp only [Option.bind_some, Option.map_map]
       congr 1
       funext y
       simp⟩
      have HX1 := Aside0.mk (R_keptR HX.out hk1 (fun k hk => by have := HG.out; omega))
      have HW1 := Aside0.mk hr1
      have HK1 := Aside0.mk (HK.out.trans hk1)
      have HSZ := Aside0.mk (HK.out.size HW.out)
      have HSY := Aside0.mk (hk1.size hr1)
      have hlx : xs.length ≤ 125000000000 := by rw [HL.out]; omega
      have HLX := Aside0.mk hlx
      have HOW : Aside0 (∀ k, (Value.slice A6 xs.length c6).ownBlock = some k → k < wr.heap.size) := ⟨fun k hk => Kd.R_own_lt HX.out hk⟩
      clear hp hr1 hk1 HQ hlx HT HX HK
      go_wp2_with (at_builtin; go_loud (refine Kd.R_append k48 (w0 := w0) w0.heap.size rfl (.tmp 35) (.tmp 38) 50 48 (.agg #[.int .i64 0, .string ⟨#[]⟩, .int .i64 0, .int .i64 0, .int .i64 0]) 48 rfl Tryz.underlying50 (by kernel_rfl) rfl (by show 0 < 5; decide) (by decide) (.slice A6 xs.length c6) xs x [.int .i64 x.f0, .string x.f1, .int .i64 x.f2, .int .i64 x.f3, .int .i64 x.f4] (fun k => W.heap.size ≤ k) (fun k => wr.heap.size ≤ k) rfl rfl hv ?hok ?hf HX1.out ?hB ?hb ?hl ?_); (case hok => go_loud (exact (fun k hk => ⟨Nat.le_trans HSZ.out hk, fun e => by have := HOW.out k e.symm; omega⟩))); (case hf => go_loud (exact (fun k hk => by have := HSZ.out; have := HSY.out; omega))); (case hB => go_loud (exact HW1.out.below)); (case hb => go_loud (exact HW1.out.below.size)); (case hl => go_loud (have := HLX.out; omega)); intro v4 w4 ho hb hg hat)
      have HR5 : Aside0 (RdAt w0 h A b c q1 w4) := ⟨⟨blk_grown HW1.out.blk hg (fun e => by have := HX1.out.1 _ e.symm; have := HG.out; omega), hb, HW1.out.ge, HW1.out.pos⟩⟩
      have HK5 : Aside0 (KeptR h W w4) := ⟨fun k o hko hne => blk_grown (HK1.out k o hko hne) hg (fun e => by have := HX1.out.1 _ e.symm; have := blk_lt hko; omega)⟩
      have HX5 := Aside0.mk ho
      have HL5 : Aside0 ((xs ++ [x]).length = i + 1) := ⟨by rw [List.length_append, HL.out]; rfl⟩
      clear ho hb hg hat hv HX1 HW1 HK1 HL HOW HSZ HSY HLX
      generalize xs ++ [x] = ys at *
      obtain ⟨A7, c7, hs7⟩ := Kd.R_slice HX5.out
      subst hs7
      go_wp2
      go_roundg (m - (i + 1))
      case measure => omega
      case rel => exact ⟨i + 1, ys, q1, by omega, by omega, by go_num, HL5, HT1, HX5, HR5, HK5⟩
    ·have he : i = m := by omega
     have hilz : decide ((i : Int) < (m : Int)) = false := by simp; omega
     have HPQ : Aside0 (pMany (pPart b) b p = some (xs, q)) := ⟨by rw [HPP.out, HT.out, he, Nat.sub_self, pTimes]; simp⟩
     have HCL := Aside0.mk (cloneP A6 c6 xs wr W.heap.size w0.heap.size HX.out (HK.out.size HW.out) HW.out.below.size (by rw [HL.out]; omega))
     clear he HPP HT HL
     go_wp2_with fail
     refine HCL.out.mono ?_
     rintro e w5 ⟨v5, rfl, hR5, hB5⟩
     have HO := Aside0.mk hR5
     have HR6 : Aside0 (RdAt w0 h A b c q w5) := ⟨⟨blk_below HW.out.blk hB5, below_step HW.out.below hB5, HW.out.ge, HW.out.pos⟩⟩
     have HK6 : Aside0 (KeptR h W w5) := ⟨HK.out.trans (KeptR.below hB5)⟩
     obtain ⟨A7, c7, hs7⟩ := Kd.R_slice hR5
     subst hs7
     clear hR5 hB5 HCL
     go_wp2
     go_ret
     rw [HPQ.out]
     exact ⟨⟨_, rfl, HO.out⟩, HR6.out, HK6.out⟩
end Go.Proofs.YtiocgaekoeekgaaGreat.P
end
section
namespace Go.Proofs.YtiocgaekoeekgaaGreat.P
open Go.RowKit Go.Proofs.YtiocgaekoeekgaaGreatW.PrintWords Go.Proofs.YtiocgaekoeekgaaGreatW.PrintLast Go.Proofs.YtiocgaekoeekgaaGreatW.PrintMore
attribute [local go_sem] max2_int min2_int max_two min_two max_three min_three max_four min_four   
set_option linter.unusedVariables false
set_option linter.unusedSimpArgs false
attribute [local go_sem] Oper.semAt_some
def pRule (b : List Int) (p : Nat) : Option (S56 × Nat) := (pNum b p).bind fun z0 => (pMany (pNum b) b z0.2).bind fun z1 => (pNum b z1.2).bind fun z2 => (pMany (pNum b) b z2.2).bind fun z3 => (pNum b z3.2).bind fun z4 => some (⟨z0.1, z1.1, ⟨z2.1, z3.1⟩, z4.1⟩, z4.2)
set_option maxHeartbeats 4000000 in
set_option maxRecDepth 100000 in
theorem rule_rd (w0 : World) (h : Nat) (A : Option Addr) (b : List Int) (c p : Nat) (W : World) (hs : Src w0 A b c) (hr : RdAt w0 h A b c p W) :
  Calls Tryz.prog 88 #[.pointer (some ⟨h, 0, none⟩)] W fun e W' => Rd w0 h A b c W (VM k56 w0 W) e W' (pRule b p) := by
 have HS := Aside0.mk hs
 have HG : Aside0 (h < W.heap.size) := ⟨blk_lt hr.blk⟩
 have hmf : ∀ (fn : Fn) (first cap : Array Value) (w : World), (Instr.makeFunc fn first cap).run Tryz.prog w = .ok (.func fn first cap) w := fun _ _ _ _ => rfl
 have HZ0 : Aside0 (W.heap.size < (W.alloc (.cells #[.int .i64 0, .slice none 0 0, .int .i64 0, .slice none 0 0, .int .i64 0] 56)).heap.size) := ⟨by simp⟩
 have HR0 : Aside0 (RdAt w0 h A b c p (W.alloc (.cells #[.int .i64 0, .slice none 0 0, .int .i64 0, .slice none 0 0, .int .i64 0] 56))) := ⟨⟨blk_below hr.blk (below_alloc (Below.refl _ _) _), below_step hr.below (below_alloc (Below.refl _ _) _), hr.ge, hr.pos⟩⟩
 have HB0 : Aside0 ((W.alloc (.cells #[.int .i64 0, .slice none 0 0, .int .i64 0, .slice none 0 0, .int .i64 0] 56)).heap[W.heap.size]? = some (.cells #[.int .i64 0, .slice none 0 0, .int .i64 0, .slice none 0 0, .int .i64 0] 56 (0, 0))) := ⟨blk_new W _⟩
 have HK0 : Aside0 (KeptR h W (W.alloc (.cells #[.int .i64 0, .slice none 0 0, .int .i64 0, .slice none 0 0, .int .i64 0] 56))) := ⟨KeptR.below (below_alloc (Below.refl _ _) _)⟩
 have HP0 : Aside0 (pRule b p = (pNum b p).bind fun z0 => (pMany (pNum b) b z0.2).bind fun z1 => (pNum b z1.2).bind fun z2 => (pMany (pNum b) b z2.2).bind fun z3 => (pNum b z3.2).bind fun z4 => some (⟨z0.1, z1.1, ⟨z2.1, z3.1⟩, z4.1⟩, z4.2)) := ⟨rfl⟩
 have HQ0 := Aside0.mk (number_rd w0 h A b c p _ HS.out HR0.out)
 clear hs hr
 go_enter Tryz.func88, Tryz.ntmps88
 go_wp2_with fail
 refine HQ0.out.mono ?_
 intro e w1 hq
 cases hp : pNum b p with
 | none =>
  rw [hp] at hq
  obtain ⟨⟨T, v, rfl⟩, hbl⟩ := hq
  exact ⟨rfl, by rw [HP0.out, hp]; exact ⟨⟨T, v, rfl⟩, hbl⟩⟩
 | some z =>
  obtain ⟨x0, q0⟩ := z
  rw [hp] at hq
  obtain ⟨⟨v, rfl, rfl⟩, hr1, hk1⟩ := hq
  have HP1 : Aside0 (pRule b p = (pMany (pNum b) b q0).bind fun z1 => (pNum b z1.2).bind fun z2 => (pMany (pNum b) b z2.2).bind fun z3 => (pNum b z3.2).bind fun z4 => some (⟨x0, z1.1, ⟨z2.1, z3.1⟩, z4.1⟩, z4.2)) := ⟨by rw [HP0.out, hp]; rfl⟩
  have HR1 := Aside0.mk hr1
  have HK1 := Aside0.mk (HK0.out.trans hk1)
  have HZ1 := Aside0.mk (Nat.lt_of_lt_of_le HZ0.out (hk1.size hr1))
  have HB1 := Aside0.mk (hk1 _ _ HB0.out (Nat.ne_of_gt HG.out))
  have HQ1 := Aside0.mk (manyI_rd w0 h A b c q0 w1 HS.out HR1.out)
  clear hr1 hk1 hp HQ0 HR0 HB0 HK0 HP0 HZ0
  go_wp2_with fail
  refine HQ1.out.mono ?_
  intro e w2 hq
  cases hp : pMany (pNum b) b q0 with
  | none =>
   rw [hp] at hq
   obtain ⟨⟨T, v, rfl⟩, hbl⟩ := hq
   exact ⟨rfl, by rw [HP1.out, hp]; exact ⟨⟨T, v, rfl⟩, hbl⟩⟩
  | some z =>
   obtain ⟨x1, q1⟩ := z
   rw [hp] at hq
   obtain ⟨⟨v, rfl, hv1⟩, hr1, hk1⟩ := hq
   obtain ⟨R1, k1, hs1⟩ := Kd.R_slice hv1
   subst hs1
   have HP2 : Aside0 (pRule b p = (pNum b q1).bind fun z2 => (pMany (pNum b) b z2.2).bind fun z3 => (pNum b z3.2).bind fun z4 => some (⟨x0, x1, ⟨z2.1, z3.1⟩, z4.1⟩, z4.2)) := ⟨by rw [HP1.out, hp]; rfl⟩
   have HR2 := Aside0.mk hr1
   have HK2 := Aside0.mk (HK1.out.trans hk1)
   have HZ2 := Aside0.mk (Nat.lt_of_lt_of_le HZ1.out (hk1.size hr1))
   have HB2 := Aside0.mk (hk1 _ _ HB1.out (Nat.ne_of_gt HG.out))
   have HV1_2 := Aside0.mk (Kd.R_mono hv1 (ok' := fun k => W.heap.size < k) (fun k hk => Nat.lt_of_lt_of_le HZ1.out hk))
   clear hv1
   have HQ2 := Aside0.mk (number_rd w0 h A b c q1 w2 HS.out HR2.out)
   clear hr1 hk1 hp HQ1 HR1 HB1 HK1 HP1 HZ1
   go_wp2_with fail
   refine HQ2.out.mono ?_
   intro e w3 hq
   cases hp : pNum b q1 with
   | none =>
    rw [hp] at hq
    obtain ⟨⟨T, v, rfl⟩, hbl⟩ := hq
    exact ⟨rfl, by rw [HP2.out, hp]; exact ⟨⟨T, v, rfl⟩, hbl⟩⟩
   | some z =>
    obtain ⟨x2, q2⟩ := z
    rw [hp] at hq
    obtain ⟨⟨v, rfl, rfl⟩, hr1, hk1⟩ := hq
    have HP3 : Aside0 (pRule b p = (pMany (pNum b) b q2).bind fun z3 => (pNum b z3.2).bind fun z4 => some (⟨x0, x1, ⟨x2, z3.1⟩, z4.1⟩, z4.2)) := ⟨by rw [HP2.out, hp]; rfl⟩
    have HR3 := Aside0.mk hr1
    have HK3 := Aside0.mk (HK2.out.trans hk1)
    have HZ3 := Aside0.mk (Nat.lt_of_lt_of_le HZ2.out (hk1.size hr1))
    have HB3 := Aside0.mk (hk1 _ _ HB2.out (Nat.ne_of_gt HG.out))
    have HV1_3 := Aside0.mk (R_keptR HV1_2.out hk1 (fun k hk => by have := HG.out; omega))
    clear HV1_2
    have HQ3 := Aside0.mk (manyI_rd w0 h A b c q2 w3 HS.out HR3.out)
    clear hr1 hk1 hp HQ2 HR2 HB2 HK2 HP2 HZ2
    go_wp2_with fail
    refine HQ3.out.mono ?_
    intro e w4 hq
    cases hp : pMany (pNum b) b q2 with
    | none =>
     rw [hp] at hq
     obtain ⟨⟨T, v, rfl⟩, hbl⟩ := hq
     exact ⟨rfl, by rw [HP3.out, hp]; exact ⟨⟨T, v, rfl⟩, hbl⟩⟩
    | some z =>
     obtain ⟨x3, q3⟩ := z
     rw [hp] at hq
     obtain ⟨⟨v, rfl, hv3⟩, hr1, hk1⟩ := hq
     obtain ⟨R3, k3, hs1⟩ := Kd.R_slice hv3
     subst hs1
     have HP4 : Aside0 (pRule b p = (pNum b q3).bind fun z4 => some (⟨x0, x1, ⟨x2, x3⟩, z4.1⟩, z4.2)) := ⟨by rw [HP3.out, hp]; rfl⟩
     have HR4 := Aside0.mk hr1
     have HK4 := Aside0.mk (HK3.out.trans hk1)
     have HZ4 := Aside0.mk (Nat.lt_of_lt_of_le HZ3.out (hk1.size hr1))
     have HB4 := Aside0.mk (hk1 _ _ HB3.out (Nat.ne_of_gt HG.out))
     have HV1_4 := Aside0.mk (R_keptR HV1_3.out hk1 (fun k hk => by have := HG.out; omega))
     clear HV1_3
     have HV3_4 := Aside0.mk (Kd.R_mono hv3 (ok' := fun k => W.heap.size < k) (fun k hk => Nat.lt_of_lt_of_le HZ3.out hk))
     clear hv3
     have HQ4 := Aside0.mk (number_rd w0 h A b c q3 w4 HS.out HR4.out)
     clear hr1 hk1 hp HQ3 HR3 HB3 HK3 HP3 HZ3
     go_wp2_with fail
     refine HQ4.out.mono ?_
     intro e w5 hq
     cases hp : pNum b q3 with
     | none =>
      rw [hp] at hq
      obtain ⟨⟨T, v, rfl⟩, hbl⟩ := hq
      exact ⟨rfl, by rw [HP4.out, hp]; exact ⟨⟨T, v, rfl⟩, hbl⟩⟩
     | some z =>
      obtain ⟨x4, q4⟩ := z
      rw [hp] at hq
      obtain ⟨⟨v, rfl, rfl⟩, hr1, hk1⟩ := hq
      have HP5 : Aside0 (pRule b p = some (⟨x0, x1, ⟨x2, x3⟩, x4⟩, q4)) := ⟨by rw [HP4.out, hp]; rfl⟩
      have HR5 := Aside0.mk hr1
      have HK5 := Aside0.mk (HK4.out.trans hk1)
      have HZ5 := Aside0.mk (Nat.lt_of_lt_of_le HZ4.out (hk1.size hr1))
      have HB5 := Aside0.mk (hk1 _ _ HB4.out (Nat.ne_of_gt HG.out))
      have HV1_5 := Aside0.mk (R_keptR HV1_4.out hk1 (fun k hk => by have := HG.out; omega))
      clear HV1_4
      have HV3_5 := Aside0.mk (R_keptR HV3_4.out hk1 (fun k hk => by have := HG.out; omega))
      clear HV3_4
      clear hr1 hk1 hp HQ4 HR4 HB4 HK4 HP4 HZ4
      have hf_0 := blk_frozen HB5.out 0
      have hc_0 := blk_cell HB5.out 0
      have hf_1 := blk_frozen HB5.out 1
      have hc_1 := blk_cell HB5.out 1
      have hf_2 := blk_frozen HB5.out 2
      have hc_2 := blk_cell HB5.out 2
      have hf_3 := blk_frozen HB5.out 3
      have hc_3 := blk_cell HB5.out 3
      have hf_4 := blk_frozen HB5.out 4
      have hc_4 := blk_cell HB5.out 4
      have hu1 := Tryz.underlying56
      have hu2 := Tryz.underlying54
      go_wp2
      have hb1 : (((((w5.setCell ⟨W.heap.size, 0, none⟩ (.int .i64 x0)).setCell ⟨W.heap.size, 1, none⟩ (.slice R1 x1.length k1)).setCell ⟨W.heap.size, 2, none⟩ (.int .i64 x2)).setCell ⟨W.heap.size, 3, none⟩ (.slice R3 x3.length k3)).setCell ⟨W.heap.size, 4, none⟩ (.int .i64 x4)).heap[W.heap.size]? = some (.cells #[.int .i64 x0, .slice R1 x1.length k1, .int .i64 x2, .slice R3 x3.length k3, .int .i64 x4] 56 (0, 0)) := by simpa using (blk_set (blk_set (blk_set (blk_set (blk_set HB5.out 0 (.int .i64 x0)) 1 (.slice R1 x1.length k1)) 2 (.int .i64 x2)) 3 (.slice R3 x3.length k3)) 4 (.int .i64 x4))
      have hv1 := Kd.R_mono (Kd.R_far (Kd.R_far (Kd.R_far (Kd.R_far (Kd.R_far HV1_5.out (p := ⟨W.heap.size, 0, none⟩) (fun k hk => Nat.ne_of_gt hk) (.int .i64 x0)) (p := ⟨W.heap.size, 1, none⟩) (fun k hk => Nat.ne_of_gt hk) (.slice R1 x1.length k1)) (p := ⟨W.heap.size, 2, none⟩) (fun k hk => Nat.ne_of_gt hk) (.int .i64 x2)) (p := ⟨W.heap.size, 3, none⟩) (fun k hk => Nat.ne_of_gt hk) (.slice R3 x3.length k3)) (p := ⟨W.heap.size, 4, none⟩) (fun k hk => Nat.ne_of_gt hk) (.int .i64 x4)) (ok' := fun k => W.heap.size ≤ k) (fun k hk => Nat.le_of_lt hk)
      have hv3 := Kd.R_mono (Kd.R_far (Kd.R_far (Kd.R_far (Kd.R_far (Kd.R_far HV3_5.out (p := ⟨W.heap.size, 0, none⟩) (fun k hk => Nat.ne_of_gt hk) (.int .i64 x0)) (p := ⟨W.heap.size, 1, none⟩) (fun k hk => Nat.ne_of_gt hk) (.slice R1 x1.length k1)) (p := ⟨W.heap.size, 2, none⟩) (fun k hk => Nat.ne_of_gt hk) (.int .i64 x2)) (p := ⟨W.heap.size, 3, none⟩) (fun k hk => Nat.ne_of_gt hk) (.slice R3 x3.length k3)) (p := ⟨W.heap.size, 4, none⟩) (fun k hk => Nat.ne_of_gt hk) (.int .i64 x4)) (ok' := fun k => W.heap.size ≤ k) (fun k hk => Nat.le_of_lt hk)
      refine bodyPost_ret (results_cell_row rfl _ _ W.heap.size 56 #[.int .i64 x0, .slice R1 x1.length k1, .int .i64 x2, .slice R3 x3.length k3, .int .i64 x4] (0, 0) _ rfl hb1 Tryz.underlying56 rfl (by kernel_rfl)) rfl ?_
      rw [HP5.out]
      exact ⟨⟨_, rfl, _, rfl, k56_mkM _ _ _ (⟨x0, x1, ⟨x2, x3⟩, x4⟩ : S56) hv1 hv3⟩, (RdAt.box (RdAt.box (RdAt.box (RdAt.box (RdAt.box HR5.out HG.out _ _) HG.out _ _) HG.out _ _) HG.out _ _) HG.out _ _), (KeptR.box (KeptR.box (KeptR.box (KeptR.box (KeptR.box HK5.out (Nat.le_refl _) _ _) (Nat.le_refl _) _ _) (Nat.le_refl _) _ _) (Nat.le_refl _) _ _) (Nat.le_refl _) _ _)⟩
set_option maxHeartbeats 4000000 in
set_option maxRecDepth 100000 in
theorem manyR_rd (w0 : World) (h : Nat) (A : Option Addr) (b : List Int) (c p : Nat) (W : World) (hs : Src w0 A b c) (hr : RdAt w0 h A b c p W) :
  Calls Tryz.prog 87 #[.pointer (some ⟨h, 0, none⟩), .func (.func 88) #[.pointer (some ⟨h, 0, none⟩)] #[]] W fun e W' => Rd w0 h A b c W (VR k56 56 w0 W) e W' (pMany (pRule b) b p) := by
 have HS := Aside0.mk hs
 have hlb := hs.len
 have HG : Aside0 (h < W.heap.size) := ⟨blk_lt hr.blk⟩
 have HP0 : Aside0 (pMany (pRule b) b p = (pNum b p).bind fun z => if z.1 < 0 ∨ ((b.length : Int) - z.2) / 8 < z.1 then none else pTimes (pRule b) z.1.toNat z.2) := ⟨rfl⟩
 have HQ0 := Aside0.mk (number_rd w0 h A b c p W hs hr)
 clear hs hr
 go_enter Tryz.func87, Tryz.ntmps87
 go_wp2_with fail
 refine HQ0.out.mono ?_
 intro e w1 hq
 cases hp : pNum b p with
 | none =>
  rw [hp] at hq
  obtain ⟨⟨T, v, rfl⟩, hbl⟩ := hq
  exact ⟨rfl, by rw [HP0.out, hp]; exact ⟨⟨T, v, rfl⟩, hbl⟩⟩
 | some z =>
  obtain ⟨n, q0⟩ := z
  rw [hp] at hq
  obtain ⟨⟨v, rfl, rfl⟩, hr1, hk1⟩ := hq
  have HP1 : Aside0 (pMany (pRule b) b p = if n < 0 ∨ ((b.length : Int) - q0) / 8 < n then none else pTimes (pRule b) n.toNat q0) := ⟨by rw [HP0.out, hp]; rfl⟩
  have hpos := hr1.pos
  have c0 : w1.cell? ⟨h, 0, none⟩ = some (.slice A b.length c) := blk_cell hr1.blk 0
  have c1 : w1.cell? ⟨h, 1, none⟩ = some (.int .i64 (q0 : Int)) := blk_cell hr1.blk 1
  have HR1 := Aside0.mk hr1
  have HK1 := Aside0.mk hk1
  have hw1 : wrap64 ((b.length : Int) - (q0 : Int)) = (b.length : Int) - (q0 : Int) := by rw [wrap64]; omega
  have hw2 : wrap64 (((b.length : Int) - (q0 : Int)) / 8) = ((b.length : Int) - (q0 : Int)) / 8 := by rw [wrap64]; omega
  have hdd : ((b.length : Int) - (q0 : Int)) / 8 ≤ 125000000000 := by omega
  clear hr1 hk1 hp HQ0 HP0
  by_cases hbad : n < 0 ∨ ((b.length : Int) - (q0 : Int)) / 8 < n
  ·have HPP : Aside0 (pMany (pRule b) b p = none) := ⟨by rw [HP1.out, if_pos hbad]⟩
   by_cases hn0 : n < 0
   ·have e1 : decide (n < 0) = true := decide_eq_true hn0
    clear hbad hn0
    go_wp2
    go_quiet (fail)
    go_wp2
    refine ⟨rfl, ?_⟩
    rw [HPP.out]
    exact ⟨⟨_, _, rfl⟩, below_step HR1.out.below (pw_below_drewN (Below.refl _ _) _)⟩
   ·have e1 : decide (n < 0) = false := decide_eq_false hn0
    have e2 : decide (((b.length : Int) - (q0 : Int)) / 8 < n) = true := decide_eq_true (by omega)
    clear hbad hn0
    go_wp2
    go_quiet (fail)
    go_wp2
    refine ⟨rfl, ?_⟩
    rw [HPP.out]
    exact ⟨⟨_, _, rfl⟩, below_step HR1.out.below (pw_below_drewN (Below.refl _ _) _)⟩
  ·obtain ⟨m, rfl⟩ : ∃ m : Nat, n = (m : Int) := ⟨n.toNat, by omega⟩
   have hm : m ≤ 125000000000 := by omega
   have e1 : decide ((m : Int) < 0) = false := decide_eq_false (by omega)
   have e2 : decide (((b.length : Int) - (q0 : Int)) / 8 < (m : Int)) = false := decide_eq_false (by omega)
   have HPP : Aside0 (pMany (pRule b) b p = pTimes (pRule b) m q0) := ⟨by rw [HP1.out, if_neg hbad, Int.toNat_natCast]⟩
   clear hbad HP1
   go_wp2
   go_quiet (fail)
   have HR2 : Aside0 (RdAt w0 h A b c q0 (w1.drewN nq)) := ⟨⟨HR1.out.blk, pw_below_drewN HR1.out.below _, HR1.out.ge, HR1.out.pos⟩⟩
   have HK2 : Aside0 (KeptR h W (w1.drewN nq)) := ⟨HK1.out.trans (KeptR.below (pw_below_drewN (Below.refl _ _) _))⟩
   have HR0 : Aside0 (Kd.R k56 56 (w1.drewN nq) w0.heap.size (fun k => W.heap.size ≤ k) (.slice none 0 0) []) := ⟨Kd.R_nil _ _ _ _ _⟩
   have HT0 : Aside0 (pTimes (pRule b) m q0 = (pTimes (pRule b) (m - 0) q0).map fun y => ([] ++ y.1, y.2)) := ⟨by simp⟩
   clear HR1 HK1 c0 c1
   generalize w1.drewN nq = w2 at *
   go_wp2
   go_loopg [6, 33] m (fun gg s6 s33 wr => ∃ (i : Nat) (xs : List S56) (q : Nat), i ≤ m ∧ m - i ≤ gg ∧ s33 = .int .i64 i ∧ Aside0 (xs.length = i) ∧ Aside0 (pTimes (pRule b) m q0 = (pTimes (pRule b) (m - i) q).map fun y => (xs ++ y.1, y.2)) ∧ Aside0 (Kd.R k56 56 wr w0.heap.size (fun k => W.heap.size ≤ k) s6 xs) ∧ Aside0 (RdAt w0 h A b c q wr) ∧ Aside0 (KeptR h W wr))
   case atStart => exact ⟨0, [], q0, by omega, by omega, rfl, ⟨rfl⟩, HT0, HR0, HR2, HK2⟩
   case round =>
    clear HR0 HR2 HK2 HT0
    obtain ⟨i, xs, q, hi, hgg, rfl, HL, HT, HX, HW, HK⟩ := hrel
    obtain ⟨A6, c6, hs6⟩ := Kd.R_slice HX.out
    subst hs6
    by_cases hil : i < m
    ·have hilz : (i : Int) < (m : Int) := by omega
     have HQ := Aside0.mk (rule_rd w0 h A b c q wr HS.out HW.out)
     go_wp2_with fail
     refine HQ.out.mono ?_
     intro e w3 hq
     cases hp : pRule b q with
     | none =>
      rw [hp] at hq
      obtain ⟨⟨T, v, rfl⟩, hbl⟩ := hq
      exact ⟨rfl, by rw [HPP.out, HT.out, show m - i = (m - i - 1) + 1 from by omega, pTimes, hp]; exact ⟨⟨T, v, rfl⟩, hbl⟩⟩
     | some z =>
      obtain ⟨x, q1⟩ := z
      rw [hp] at hq
      obtain ⟨⟨v, rfl, cs, rfl, hm⟩, hr1, hk1⟩ := hq
      obtain ⟨u1, u3, rfl, gu1, gu3⟩ := k56_openM hm
      have hv := hm
      clear gu1
      clear gu3
      clear hm
      have HT1 : Aside0 (pTimes (pRule b) m q0 = (pTimes (pRule b) (m - (i + 1)) q1).map fun y => (xs ++ [x] ++ y.1, y.2)) := ⟨by
       rw [HT.out, show m - i = (m - (i + 1)) + 1 from by omega, pTimes, hp]
       simp only [Option.bind_some, Option.map_map]
       congr 1
       funext y
       simp⟩
      have HX1 := Aside0.mk (R_keptR HX.out hk1 (fun k hk => by have := HG.out; omega))
      have HW1 := Aside0.mk hr1
      have HK1 := Aside0.mk (HK.out.trans hk1)
      have HSZ := Aside0.mk (HK.out.size HW.out)
      have HSY := Aside0.mk (hk1.size hr1)
      have hlx : xs.length ≤ 125000000000 := by rw [HL.out]; omega
      have HLX := Aside0.mk hlx
      have HOW : Aside0 (∀ k, (Value.slice A6 xs.length c6).ownBlock = some k → k < wr.heap.size) := ⟨fun k hk => Kd.R_own_lt HX.out hk⟩
      clear hp hr1 hk1 HQ hlx HT HX HK
      go_wp2_with (at_builtin; go_loud (refine Kd.R_append k56 (w0 := w0) w0.heap.size rfl (.tmp 35) (.tmp 38) 41 56 (.agg #[.int .i64 0, .slice none 0 0, .int .i64 0, .slice none 0 0, .int .i64 0]) 72 rfl Tryz.underlying41 (by kernel_rfl) rfl (by show 0 < 5; decide) (by decide) (.slice A6 xs.length c6) xs x [.int .i64 x.f0, u1, .int .i64 x.f2.f0, u3, .int .i64 x.f3] (fun k => W.heap.size ≤ k) (fun k => wr.heap.size ≤ k) rfl rfl hv ?hok ?hf HX1.out ?hB ?hb ?hl ?_); (case hok => go_loud (exact (fun k hk => ⟨Nat.le_trans HSZ.out hk, fun e => by have := HOW.out k e.symm; omega⟩))); (case hf => go_loud (exact (fun k hk => by have := HSZ.out; have := HSY.out; omega))); (case hB => go_loud (exact HW1.out.below)); (case hb => go_loud (exact HW1.out.below.size)); (case hl => go_loud (have := HLX.out; omega)); intro v4 w4 ho hb hg hat)
      have HR5 : Aside0 (RdAt w0 h A b c q1 w4) := ⟨⟨blk_grown HW1.out.blk hg (fun e => by have := HX1.out.1 _ e.symm; have := HG.out; omega), hb, HW1.out.ge, HW1.out.pos⟩⟩
      have HK5 : Aside0 (KeptR h W w4) := ⟨fun k o hko hne => blk_grown (HK1.out k o hko hne) hg (fun e => by have := HX1.out.1 _ e.symm; have := blk_lt hko; omega)⟩
      have HX5 := Aside0.mk ho
      have HL5 : Aside0 ((xs ++ [x]).length = i + 1) := ⟨by rw [List.length_append, HL.out]; rfl⟩
      clear ho hb hg hat hv HX1 HW1 HK1 HL HOW HSZ HSY HLX
      generalize xs ++ [x] = ys at *
      obtain ⟨A7, c7, hs7⟩ := Kd.R_slice HX5.out
      subst hs7
      go_wp2
      go_roundg (m - (i + 1))
      case measure => omega
      case rel => exact ⟨i + 1, ys, q1, by omega, by omega, by go_num, HL5, HT1, HX5, HR5, HK5⟩
    ·have he : i = m := by omega
     have hilz : decide ((i : Int) < (m : Int)) = false := by simp; omega
     have HPQ : Aside0 (pMany (pRule b) b p = some (xs, q)) := ⟨by rw [HPP.out, HT.out, he, Nat.sub_self, pTimes]; simp⟩
     have HCL := Aside0.mk (cloneR A6 c6 xs wr W.heap.size w0.heap.size HX.out (HK.out.size HW.out) HW.out.below.size (by rw [HL.out]; omega))
     clear he HPP HT HL
     go_wp2_with fail
     refine HCL.out.mono ?_
     rintro e w5 ⟨v5, rfl, hR5, hB5⟩
     have HO := Aside0.mk hR5
     have HR6 : Aside0 (RdAt w0 h A b c q w5) := ⟨⟨blk_below HW.out.blk hB5, below_step HW.out.below hB5, HW.out.ge, HW.out.pos⟩⟩
     have HK6 : Aside0 (KeptR h W w5) := ⟨HK.out.trans (KeptR.below hB5)⟩
     obtain ⟨A7, c7, hs7⟩ := Kd.R_slice hR5
     subst hs7
     clear hR5 hB5 HCL
     go_wp2
     go_ret
     rw [HPQ.out]
     exact ⟨⟨_, rfl, HO.out⟩, HR6.out, HK6.out⟩
def pStyle (b : List Int) (p : Nat) : Option (S52 × Nat) := (pNum b p).bind fun z0 => (pMany (pPart b) b z0.2).bind fun z1 => some (⟨z0.1, z1.1⟩, z1.2)
set_option maxHeartbeats 4000000 in
set_option maxRecDepth 100000 in
theorem style_rd (w0 : World) (h : Nat) (A : Option Addr) (b : List Int) (c p : Nat) (W : World) (hs : Src w0 A b c) (hr : RdAt w0 h A b c p W) :
  Calls Tryz.prog 90 #[.pointer (some ⟨h, 0, none⟩)] W fun e W' => Rd w0 h A b c W (VM k52 w0 W) e W' (pStyle b p) := by
 have HS := Aside0.mk hs
 have HG : Aside0 (h < W.heap.size) := ⟨blk_lt hr.blk⟩
 have hmf : ∀ (fn : Fn) (first cap : Array Value) (w : World), (Instr.makeFunc fn first cap).run Tryz.prog w = .ok (.func fn first cap) w := fun _ _ _ _ => rfl
 have HZ0 : Aside0 (W.heap.size < (W.alloc (.cells #[.int .i64 0, .slice none 0 0] 52)).heap.size) := ⟨by simp⟩
 have HR0 : Aside0 (RdAt w0 h A b c p (W.alloc (.cells #[.int .i64 0, .slice none 0 0] 52))) := ⟨⟨blk_below hr.blk (below_alloc (Below.refl _ _) _), below_step hr.below (below_alloc (Below.refl _ _) _), hr.ge, hr.pos⟩⟩
 have HB0 : Aside0 ((W.alloc (.cells #[.int .i64 0, .slice none 0 0] 52)).heap[W.heap.size]? = some (.cells #[.int .i64 0, .slice none 0 0] 52 (0, 0))) := ⟨blk_new W _⟩
 have HK0 : Aside0 (KeptR h W (W.alloc (.cells #[.int .i64 0, .slice none 0 0] 52))) := ⟨KeptR.below (below_alloc (Below.refl _ _) _)⟩
 have HP0 : Aside0 (pStyle b p = (pNum b p).bind fun z0 => (pMany (pPart b) b z0.2).bind fun z1 => some (⟨z0.1, z1.1⟩, z1.2)) := ⟨rfl⟩
 have HQ0 := Aside0.mk (number_rd w0 h A b c p _ HS.out HR0.out)
 clear hs hr
 go_enter Tryz.func90, Tryz.ntmps90
 go_wp2_with fail
 refine HQ0.out.mono ?_
 intro e w1 hq
 cases hp : pNum b p with
 | none =>
  rw [hp] at hq
  obtain ⟨⟨T, v, rfl⟩, hbl⟩ := hq
  exact ⟨rfl, by rw [HP0.out, hp]; exact ⟨⟨T, v, rfl⟩, hbl⟩⟩
 | some z =>
  obtain ⟨x0, q0⟩ := z
  rw [hp] at hq
  obtain ⟨⟨v, rfl, rfl⟩, hr1, hk1⟩ := hq
  have HP1 : Aside0 (pStyle b p = (pMany (pPart b) b q0).bind fun z1 => some (⟨x0, z1.1⟩, z1.2)) := ⟨by rw [HP0.out, hp]; rfl⟩
  have HR1 := Aside0.mk hr1
  have HK1 := Aside0.mk (HK0.out.trans hk1)
  have HZ1 := Aside0.mk (Nat.lt_of_lt_of_le HZ0.out (hk1.size hr1))
  have HB1 := Aside0.mk (hk1 _ _ HB0.out (Nat.ne_of_gt HG.out))
  have HQ1 := Aside0.mk (manyP_rd w0 h A b c q0 w1 HS.out HR1.out)
  clear hr1 hk1 hp HQ0 HR0 HB0 HK0 HP0 HZ0
  go_wp2_with fail
  refine HQ1.out.mono ?_
  intro e w2 hq
  cases hp : pMany (pPart b) b q0 with
  | none =>
   rw [hp] at hq
   obtain ⟨⟨T, v, rfl⟩, hbl⟩ := hq
   exact ⟨rfl, by rw [HP1.out, hp]; exact ⟨⟨T, v, rfl⟩, hbl⟩⟩
  | some z =>
   obtain ⟨x1, q1⟩ := z
   rw [hp] at hq
   obtain ⟨⟨v, rfl, hv1⟩, hr1, hk1⟩ := hq
   obtain ⟨R1, k1, hs1⟩ := Kd.R_slice hv1
   subst hs1
   have HP2 : Aside0 (pStyle b p = some (⟨x0, x1⟩, q1)) := ⟨by rw [HP1.out, hp]; rfl⟩
   have HR2 := Aside0.mk hr1
   have HK2 := Aside0.mk (HK1.out.trans hk1)
   have HZ2 := Aside0.mk (Nat.lt_of_lt_of_le HZ1.out (hk1.size hr1))
   have HB2 := Aside0.mk (hk1 _ _ HB1.out (Nat.ne_of_gt HG.out))
   have HV1_2 := Aside0.mk (Kd.R_mono hv1 (ok' := fun k => W.heap.size < k) (fun k hk => Nat.lt_of_lt_of_le HZ1.out hk))
   clear hv1
   clear hr1 hk1 hp HQ1 HR1 HB1 HK1 HP1 HZ1
   have hf_0 := blk_frozen HB2.out 0
   have hc_0 := blk_cell HB2.out 0
   have hf_1 := blk_frozen HB2.out 1
   have hc_1 := blk_cell HB2.out 1
   have hu1 := Tryz.underlying52
   go_wp2
   have hb1 : ((w2.setCell ⟨W.heap.size, 0, none⟩ (.int .i64 x0)).setCell ⟨W.heap.size, 1, none⟩ (.slice R1 x1.length k1)).heap[W.heap.size]? = some (.cells #[.int .i64 x0, .slice R1 x1.length k1] 52 (0, 0)) := by simpa using (blk_set (blk_set HB2.out 0 (.int .i64 x0)) 1 (.slice R1 x1.length k1))
   have hv1 := Kd.R_mono (Kd.R_far (Kd.R_far HV1_2.out (p := ⟨W.heap.size, 0, none⟩) (fun k hk => Nat.ne_of_gt hk) (.int .i64 x0)) (p := ⟨W.heap.size, 1, none⟩) (fun k hk => Nat.ne_of_gt hk) (.slice R1 x1.length k1)) (ok' := fun k => W.heap.size ≤ k) (fun k hk => Nat.le_of_lt hk)
   refine bodyPost_ret (results_cell_row rfl _ _ W.heap.size 52 #[.int .i64 x0, .slice R1 x1.length k1] (0, 0) _ rfl hb1 Tryz.underlying52 rfl (by kernel_rfl)) rfl ?_
   rw [HP2.out]
   exact ⟨⟨_, rfl, _, rfl, k52_mkM _ _ _ (⟨x0, x1⟩ : S52) hv1⟩, (RdAt.box (RdAt.box HR2.out HG.out _ _) HG.out _ _), (KeptR.box (KeptR.box HK2.out (Nat.le_refl _) _ _) (Nat.le_refl _) _ _)⟩
set_option maxHeartbeats 4000000 in
set_option maxRecDepth 100000 in
theorem manyS_rd (w0 : World) (h : Nat) (A : Option Addr) (b : List Int) (c p : Nat) (W : World) (hs : Src w0 A b c) (hr : RdAt w0 h A b c p W) :
  Calls Tryz.prog 89 #[.pointer (some ⟨h, 0, none⟩), .func (.func 90) #[.pointer (some ⟨h, 0, none⟩)] #[]] W fun e W' => Rd w0 h A b c W (VR k52 52 w0 W) e W' (pMany (pStyle b) b p) := by
 have HS := Aside0.mk hs
 have hlb := hs.len
 have HG : Aside0 (h < W.heap.size) := ⟨blk_lt hr.blk⟩
 have HP0 : Aside0 (pMany (pStyle b) b p = (pNum b p).bind fun z => if z.1 < 0 ∨ ((b.length : Int) - z.2) / 8 < z.1 then none else pTimes (pStyle b) z.1.toNat z.2) := ⟨rfl⟩
 have HQ0 := Aside0.mk (number_rd w0 h A b c p W hs hr)
 clear hs hr
 go_enter Tryz.func89, Tryz.ntmps89
 go_wp2_with fail
 refine HQ0.out.mono ?_
 intro e w1 hq
 cases hp : pNum b p with
 | none =>
  rw [hp] at hq
  obtain ⟨⟨T, v, rfl⟩, hbl⟩ := hq
  exact ⟨rfl, by rw [HP0.out, hp]; exact ⟨⟨T, v, rfl⟩, hbl⟩⟩
 | some z =>
  obtain ⟨n, q0⟩ := z
  rw [hp] at hq
  obtain ⟨⟨v, rfl, rfl⟩, hr1, hk1⟩ := hq
  have HP1 : Aside0 (pMany (pStyle b) b p = if n < 0 ∨ ((b.length : Int) - q0) / 8 < n then none else pTimes (pStyle b) n.toNat q0) := ⟨by rw [HP0.out, hp]; rfl⟩
  have hpos := hr1.pos
  have c0 : w1.cell? ⟨h, 0, none⟩ = some (.slice A b.length c) := blk_cell hr1.blk 0
  have c1 : w1.cell? ⟨h, 1, none⟩ = some (.int .i64 (q0 : Int)) := blk_cell hr1.blk 1
  have HR1 := Aside0.mk hr1
  have HK1 := Aside0.mk hk1
  have hw1 : wrap64 ((b.length : Int) - (q0 : Int)) = (b.length : Int) - (q0 : Int) := by rw [wrap64]; omega
  have hw2 : wrap64 (((b.length : Int) - (q0 : Int)) / 8) = ((b.length : Int) - (q0 : Int)) / 8 := by rw [wrap64]; omega
  have hdd : ((b.length : Int) - (q0 : Int)) / 8 ≤ 125000000000 := by omega
  clear hr1 hk1 hp HQ0 HP0
  by_cases hbad : n < 0 ∨ ((b.length : Int) - (q0 : Int)) / 8 < n
  ·have HPP : Aside0 (pMany (pStyle b) b p = none) := ⟨by rw [HP1.out, if_pos hbad]⟩
   by_cases hn0 : n < 0
   ·have e1 : decide (n < 0) = true := decide_eq_true hn0
    clear hbad hn0
    go_wp2
    go_quiet (fail)
    go_wp2
    refine ⟨rfl, ?_⟩
    rw [HPP.out]
    exact ⟨⟨_, _, rfl⟩, below_step HR1.out.below (pw_below_drewN (Below.refl _ _) _)⟩
   ·have e1 : decide (n < 0) = false := decide_eq_false hn0
    have e2 : decide (((b.length : Int) - (q0 : Int)) / 8 < n) = true := decide_eq_true (by omega)
    clear hbad hn0
    go_wp2
    go_quiet (fail)
    go_wp2
    refine ⟨rfl, ?_⟩
    rw [HPP.out]
    exact ⟨⟨_, _, rfl⟩, below_step HR1.out.below (pw_below_drewN (Below.refl _ _) _)⟩
  ·obtain ⟨m, rfl⟩ : ∃ m : Nat, n = (m : Int) := ⟨n.toNat, by omega⟩
   have hm : m ≤ 125000000000 := by omega
   have e1 : decide ((m : Int) < 0) = false := decide_eq_false (by omega)
   have e2 : decide (((b.length : Int) - (q0 : Int)) / 8 < (m : Int)) = false := decide_eq_false (by omega)
   have HPP : Aside0 (pMany (pStyle b) b p = pTimes (pStyle b) m q0) := ⟨by rw [HP1.out, if_neg hbad, Int.toNat_natCast]⟩
   clear hbad HP1
   go_wp2
   go_quiet (fail)
   have HR2 : Aside0 (RdAt w0 h A b c q0 (w1.drewN nq)) := ⟨⟨HR1.out.blk, pw_below_drewN HR1.out.below _, HR1.out.ge, HR1.out.pos⟩⟩
   have HK2 : Aside0 (KeptR h W (w1.drewN nq)) := ⟨HK1.out.trans (KeptR.below (pw_below_drewN (Below.refl _ _) _))⟩
   have HR0 : Aside0 (Kd.R k52 52 (w1.drewN nq) w0.heap.size (fun k => W.heap.size ≤ k) (.slice none 0 0) []) := ⟨Kd.R_nil _ _ _ _ _⟩
   have HT0 : Aside0 (pTimes (pStyle b) m q0 = (pTimes (pStyle b) (m - 0) q0).map fun y => ([] ++ y.1, y.2)) := ⟨by simp⟩
   clear HR1 HK1 c0 c1
   generalize w1.drewN nq = w2 at *
   go_wp2
   go_loopg [6, 33] m (fun gg s6 s33 wr => ∃ (i : Nat) (xs : List S52) (q : Nat), i ≤ m ∧ m - i ≤ gg ∧ s33 = .int .i64 i ∧ Aside0 (xs.length = i) ∧ Aside0 (pTimes (pStyle b) m q0 = (pTimes (pStyle b) (m - i) q).map fun y => (xs ++ y.1, y.2)) ∧ Aside0 (Kd.R k52 52 wr w0.heap.size (fun k => W.heap.size ≤ k) s6 xs) ∧ Aside0 (RdAt w0 h A b c q wr) ∧ Aside0 (KeptR h W wr))
   case atStart => exact ⟨0, [], q0, by omega, by omega, rfl, ⟨rfl⟩, HT0, HR0, HR2, HK2⟩
   case round =>
    clear HR0 HR2 HK2 HT0
    obtain ⟨i, xs, q, hi, hgg, rfl, HL, HT, HX, HW, HK⟩ := hrel
    obtain ⟨A6, c6, hs6⟩ := Kd.R_slice HX.out
    subst hs6
    by_cases hil : i < m
    ·have hilz : (i : Int) < (m : Int) := by omega
     have HQ := Aside0.mk (style_rd w0 h A b c q wr HS.out HW.out)
     go_wp2_with fail
     refine HQ.out.mono ?_
     intro e w3 hq
     cases hp : pStyle b q with
     | none =>
      rw [hp] at hq
      obtain ⟨⟨T, v, rfl⟩, hbl⟩ := hq
      exact ⟨rfl, by rw [HPP.out, HT.out, show m - i = (m - i - 1) + 1 from by omega, pTimes, hp]; exact ⟨⟨T, v, rfl⟩, hbl⟩⟩
     | some z =>
      obtain ⟨x, q1⟩ := z
      rw [hp] at hq
      obtain ⟨⟨v, rfl, cs, rfl, hm⟩, hr1, hk1⟩ := hq
      obtain ⟨u1, rfl, gu1⟩ := k52_openM hm
      have hv := hm
      clear gu1
      clear hm
      have HT1 : Aside0 (pTimes (pStyle b) m q0 = (pTimes (pStyle b) (m - (i + 1)) q1).map fun y => (xs ++ [x] ++ y.1, y.2)) := ⟨by
       rw [HT.out, show m - i = (m - (i + 1)) + 1 from by omega, pTimes, hp]
       simp only [Option.bind_some, Option.map_map]
       congr 1
       funext y
       simp⟩
      have HX1 := Aside0.mk (R_keptR HX.out hk1 (fun k hk => by have := HG.out; omega))
      have HW1 := Aside0.mk hr1
      have HK1 := Aside0.mk (HK.out.trans hk1)
      have HSZ := Aside0.mk (HK.out.size HW.out)
      have HSY := Aside0.mk (hk1.size hr1)
      have hlx : xs.length ≤ 125000000000 := by rw [HL.out]; omega
      have HLX := Aside0.mk hlx
      have HOW : Aside0 (∀ k, (Value.slice A6 xs.length c6).ownBlock = some k → k < wr.heap.size) := ⟨fun k hk => Kd.R_own_lt HX.out hk⟩
      clear hp hr1 hk1 HQ hlx HT HX HK
      go_wp2_with (at_builtin; go_loud (refine Kd.R_append k52 (w0 := w0) w0.heap.size rfl (.tmp 35) (.tmp 38) 42 52 (.agg #[.int .i64 0, .slice none 0 0]) 32 rfl Tryz.underlying42 (by kernel_rfl) rfl (by show 0 < 2; decide) (by decide) (.slice A6 xs.length c6) xs x [.int .i64 x.f0, u1] (fun k => W.heap.size ≤ k) (fun k => wr.heap.size ≤ k) rfl rfl hv ?hok ?hf HX1.out ?hB ?hb ?hl ?_); (case hok => go_loud (exact (fun k hk => ⟨Nat.le_trans HSZ.out hk, fun e => by have := HOW.out k e.symm; omega⟩))); (case hf => go_loud (exact (fun k hk => by have := HSZ.out; have := HSY.out; omega))); (case hB => go_loud (exact HW1.out.below)); (case hb => go_loud (exact HW1.out.below.size)); (case hl => go_loud (have := HLX.out; omega)); intro v4 w4 ho hb hg hat)
      have HR5 : Aside0 (RdAt w0 h A b c q1 w4) := ⟨⟨blk_grown HW1.out.blk hg (fun e => by have := HX1.out.1 _ e.symm; have := HG.out; omega), hb, HW1.out.ge, HW1.out.pos⟩⟩
      have HK5 : Aside0 (KeptR h W w4) := ⟨fun k o hko hne => blk_grown (HK1.out k o hko hne) hg (fun e => by have := HX1.out.1 _ e.symm; have := blk_lt hko; omega)⟩
      have HX5 := Aside0.mk ho
      have HL5 : Aside0 ((xs ++ [x]).length = i + 1) := ⟨by rw [List.length_append, HL.out]; rfl⟩
      clear ho hb hg hat hv HX1 HW1 HK1 HL HOW HSZ HSY HLX
      generalize xs ++ [x] = ys at *
      obtain ⟨A7, c7, hs7⟩ := Kd.R_slice HX5.out
      subst hs7
      go_wp2
      go_roundg (m - (i + 1))
      case measure => omega
      case rel => exact ⟨i + 1, ys, q1, by omega, by omega, by go_num, HL5, HT1, HX5, HR5, HK5⟩
    ·have he : i = m := by omega
     have hilz : decide ((i : Int) < (m : Int)) = false := by simp; omega
     have HPQ : Aside0 (pMany (pStyle b) b p = some (xs, q)) := ⟨by rw [HPP.out, HT.out, he, Nat.sub_self, pTimes]; simp⟩
     have HCL := Aside0.mk (cloneS A6 c6 xs wr W.heap.size w0.heap.size HX.out (HK.out.size HW.out) HW.out.below.size (by rw [HL.out]; omega))
     clear he HPP HT HL
     go_wp2_with fail
     refine HCL.out.mono ?_
     rintro e w5 ⟨v5, rfl, hR5, hB5⟩
     have HO := Aside0.mk hR5
     have HR6 : Aside0 (RdAt w0 h A b c q w5) := ⟨⟨blk_below HW.out.blk hB5, below_step HW.out.below hB5, HW.out.ge, HW.out.pos⟩⟩
     have HK6 : Aside0 (KeptR h W w5) := ⟨HK.out.trans (KeptR.below hB5)⟩
     obtain ⟨A7, c7, hs7⟩ := Kd.R_slice hR5
     subst hs7
     clear hR5 hB5 HCL
     go_wp2
     go_ret
     rw [HPQ.out]
     exact ⟨⟨_, rfl, HO.out⟩, HR6.out, HK6.out⟩
end Go.Proofs.YtiocgaekoeekgaaGreat.P
end
section
namespace Go.Proofs.YtiocgaekoeekgaaGreat.P
open Go.RowKit Go.Proofs.YtiocgaekoeekgaaGreatW.PrintWords Go.Proofs.YtiocgaekoeekgaaGreatW.PrintLast Go.Proofs.YtiocgaekoeekgaaGreatW.PrintMore
attribute [local go_sem] max2_int min2_int max_two min_two max_three min_three max_four min_four   
set_option linter.unusedVariables false
set_option linter.unusedSimpArgs false
attribute [local go_sem] Oper.semAt_some
def pLoc (b : List Int) (p : Nat) : Option (S44 × Nat) := (pText b p).bind fun z0 => (pNum b z0.2).bind fun z1 => (pNum b z1.2).bind fun z2 => (pMany (pEnt b) b z2.2).bind fun z3 => (pMany (pRule b) b z3.2).bind fun z4 => (pMany (pStyle b) b z4.2).bind fun z5 => some (⟨z0.1, z1.1, z2.1, z3.1, z4.1, z5.1⟩, z5.2)
set_option maxHeartbeats 4000000 in
set_option maxRecDepth 100000 in
theorem locale_rd (w0 : World) (h : Nat) (A : Option Addr) (b : List Int) (c p : Nat) (W : World) (hs : Src w0 A b c) (hr : RdAt w0 h A b c p W) :
  Calls Tryz.prog 38 #[.pointer (some ⟨h, 0, none⟩)] W fun e W' => Rd w0 h A b c W (VM k44 w0 W) e W' (pLoc b p) := by
 have HS := Aside0.mk hs
 have HG : Aside0 (h < W.heap.size) := ⟨blk_lt hr.blk⟩
 have hmf : ∀ (fn : Fn) (first cap : Array Value) (w : World), (Instr.makeFunc fn first cap).run Tryz.prog w = .ok (.func fn first cap) w := fun _ _ _ _ => rfl
 have HZ0 : Aside0 (W.heap.size < (W.alloc (.cells #[.string ⟨#[]⟩, .int .i64 0, .int .i64 0, .slice none 0 0, .slice none 0 0, .slice none 0 0] 44)).heap.size) := ⟨by simp⟩
 have HR0 : Aside0 (RdAt w0 h A b c p (W.alloc (.cells #[.string ⟨#[]⟩, .int .i64 0, .int .i64 0, .slice none 0 0, .slice none 0 0, .slice none 0 0] 44))) := ⟨⟨blk_below hr.blk (below_alloc (Below.refl _ _) _), below_step hr.below (below_alloc (Below.refl _ _) _), hr.ge, hr.pos⟩⟩
 have HB0 : Aside0 ((W.alloc (.cells #[.string ⟨#[]⟩, .int .i64 0, .int .i64 0, .slice none 0 0, .slice none 0 0, .slice none 0 0] 44)).heap[W.heap.size]? = some (.cells #[.string ⟨#[]⟩, .int .i64 0, .int .i64 0, .slice none 0 0, .slice none 0 0, .slice none 0 0] 44 (0, 0))) := ⟨blk_new W _⟩
 have HK0 : Aside0 (KeptR h W (W.alloc (.cells #[.string ⟨#[]⟩, .int .i64 0, .int .i64 0, .slice none 0 0, .slice none 0 0, .slice none 0 0] 44))) := ⟨KeptR.below (below_alloc (Below.refl _ _) _)⟩
 have HP0 : Aside0 (pLoc b p = (pText b p).bind fun z0 => (pNum b z0.2).bind fun z1 => (pNum b z1.2).bind fun z2 => (pMany (pEnt b) b z2.2).bind fun z3 => (pMany (pRule b) b z3.2).bind fun z4 => (pMany (pStyle b) b z4.2).bind fun z5 => some (⟨z0.1, z1.1, z2.1, z3.1, z4.1, z5.1⟩, z5.2)) := ⟨rfl⟩
 have HQ0 := Aside0.mk (text_rd w0 h A b c p _ HS.out HR0.out)
 clear hs hr
 go_enter Tryz.func38, Tryz.ntmps38
 go_wp2_with fail
 refine HQ0.out.mono ?_
 intro e w1 hq
 cases hp : pText b p with
 | none =>
  rw [hp] at hq
  obtain ⟨⟨T, v, rfl⟩, hbl⟩ := hq
  exact ⟨rfl, by rw [HP0.out, hp]; exact ⟨⟨T, v, rfl⟩, hbl⟩⟩
 | some z =>
  obtain ⟨x0, q0⟩ := z
  rw [hp] at hq
  obtain ⟨⟨v, rfl, rfl⟩, hr1, hk1⟩ := hq
  have HP1 : Aside0 (pLoc b p = (pNum b q0).bind fun z1 => (pNum b z1.2).bind fun z2 => (pMany (pEnt b) b z2.2).bind fun z3 => (pMany (pRule b) b z3.2).bind fun z4 => (pMany (pStyle b) b z4.2).bind fun z5 => some (⟨x0, z1.1, z2.1, z3.1, z4.1, z5.1⟩, z5.2)) := ⟨by rw [HP0.out, hp]; rfl⟩
  have HR1 := Aside0.mk hr1
  have HK1 := Aside0.mk (HK0.out.trans hk1)
  have HZ1 := Aside0.mk (Nat.lt_of_lt_of_le HZ0.out (hk1.size hr1))
  have HB1 := Aside0.mk (hk1 _ _ HB0.out (Nat.ne_of_gt HG.out))
  have HQ1 := Aside0.mk (number_rd w0 h A b c q0 w1 HS.out HR1.out)
  clear hr1 hk1 hp HQ0 HR0 HB0 HK0 HP0 HZ0
  go_wp2_with fail
  refine HQ1.out.mono ?_
  intro e w2 hq
  cases hp : pNum b q0 with
  | none =>
   rw [hp] at hq
   obtain ⟨⟨T, v, rfl⟩, hbl⟩ := hq
   exact ⟨rfl, by rw [HP1.out, hp]; exact ⟨⟨T, v, rfl⟩, hbl⟩⟩
  | some z =>
   obtain ⟨x1, q1⟩ := z
   rw [hp] at hq
   obtain ⟨⟨v, rfl, rfl⟩, hr1, hk1⟩ := hq
   have HP2 : Aside0 (pLoc b p = (pNum b q1).bind fun z2 => (pMany (pEnt b) b z2.2).bind fun z3 => (pMany (pRule b) b z3.2).bind fun z4 => (pMany (pStyle b) b z4.2).bind fun z5 => some (⟨x0, x1, z2.1, z3.1, z4.1, z5.1⟩, z5.2)) := ⟨by rw [HP1.out, hp]; rfl⟩
   have HR2 := Aside0.mk hr1
   have HK2 := Aside0.mk (HK1.out.trans hk1)
   have HZ2 := Aside0.mk (Nat.lt_of_lt_of_le HZ1.out (hk1.size hr1))
   have HB2 := Aside0.mk (hk1 _ _ HB1.out (Nat.ne_of_gt HG.out))
   have HQ2 := Aside0.mk (number_rd w0 h A b c q1 w2 HS.out HR2.out)
   clear hr1 hk1 hp HQ1 HR1 HB1 HK1 HP1 HZ1
   go_wp2_with fail
   refine HQ2.out.mono ?_
   intro e w3 hq
   cases hp : pNum b q1 with
   | none =>
    rw [hp] at hq
    obtain ⟨⟨T, v, rfl⟩, hbl⟩ := hq
    exact ⟨rfl, by rw [HP2.out, hp]; exact ⟨⟨T, v, rfl⟩, hbl⟩⟩
   | some z =>
    obtain ⟨x2, q2⟩ := z
    rw [hp] at hq
    obtain ⟨⟨v, rfl, rfl⟩, hr1, hk1⟩ := hq
    have HP3 : Aside0 (pLoc b p = (pMany (pEnt b) b q2).bind fun z3 => (pMany (pRule b) b z3.2).bind fun z4 => (pMany (pStyle b) b z4.2).bind fun z5 => some (⟨x0, x1, x2, z3.1, z4.1, z5.1⟩, z5.2)) := ⟨by rw [HP2.out, hp]; rfl⟩
    have HR3 := Aside0.mk hr1
    have HK3 := Aside0.mk (HK2.out.trans hk1)
    have HZ3 := Aside0.mk (Nat.lt_of_lt_of_le HZ2.out (hk1.size hr1))
    have HB3 := Aside0.mk (hk1 _ _ HB2.out (Nat.ne_of_gt HG.out))
    have HQ3 := Aside0.mk (manyE_rd w0 h A b c q2 w3 HS.out HR3.out)
    clear hr1 hk1 hp HQ2 HR2 HB2 HK2 HP2 HZ2
    go_wp2_with fail
    refine HQ3.out.mono ?_
    intro e w4 hq
    cases hp : pMany (pEnt b) b q2 with
    | none =>
     rw [hp] at hq
     obtain ⟨⟨T, v, rfl⟩, hbl⟩ := hq
     exact ⟨rfl, by rw [HP3.out, hp]; exact ⟨⟨T, v, rfl⟩, hbl⟩⟩
    | some z =>
     obtain ⟨x3, q3⟩ := z
     rw [hp] at hq
     obtain ⟨⟨v, rfl, hv3⟩, hr1, hk1⟩ := hq
     obtain ⟨R3, k3, hs1⟩ := Kd.R_slice hv3
     subst hs1
     have HP4 : Aside0 (pLoc b p = (pMany (pRule b) b q3).bind fun z4 => (pMany (pStyle b) b z4.2).bind fun z5 => some (⟨x0, x1, x2, x3, z4.1, z5.1⟩, z5.2)) := ⟨by rw [HP3.out, hp]; rfl⟩
     have HR4 := Aside0.mk hr1
     have HK4 := Aside0.mk (HK3.out.trans hk1)
     have HZ4 := Aside0.mk (Nat.lt_of_lt_of_le HZ3.out (hk1.size hr1))
     have HB4 := Aside0.mk (hk1 _ _ HB3.out (Nat.ne_of_gt HG.out))
     have HV3_4 := Aside0.mk (Kd.R_mono hv3 (ok' := fun k => W.heap.size < k) (fun k hk => Nat.lt_of_lt_of_le HZ3.out hk))
     clear hv3
     have HQ4 := Aside0.mk (manyR_rd w0 h A b c q3 w4 HS.out HR4.out)
     clear hr1 hk1 hp HQ3 HR3 HB3 HK3 HP3 HZ3
     go_wp2_with fail
     refine HQ4.out.mono ?_
     intro e w5 hq
     cases hp : pMany (pRule b) b q3 with
     | none =>
      rw [hp] at hq
      obtain ⟨⟨T, v, rfl⟩, hbl⟩ := hq
      exact ⟨rfl, by rw [HP4.out, hp]; exact ⟨⟨T, v, rfl⟩, hbl⟩⟩
     | some z =>
      obtain ⟨x4, q4⟩ := z
      rw [hp] at hq
      obtain ⟨⟨v, rfl, hv4⟩, hr1, hk1⟩ := hq
      obtain ⟨R4, k4, hs1⟩ := Kd.R_slice hv4
      subst hs1
      have HP5 : Aside0 (pLoc b p = (pMany (pStyle b) b q4).bind fun z5 => some (⟨x0, x1, x2, x3, x4, z5.1⟩, z5.2)) := ⟨by rw [HP4.out, hp]; rfl⟩
      have HR5 := Aside0.mk hr1
      have HK5 := Aside0.mk (HK4.out.trans hk1)
      have HZ5 := Aside0.mk (Nat.lt_of_lt_of_le HZ4.out (hk1.size hr1))
      have HB5 := Aside0.mk (hk1 _ _ HB4.out (Nat.ne_of_gt HG.out))
      have HV3_5 := Aside0.mk (R_keptR HV3_4.out hk1 (fun k hk => by have := HG.out; omega))
      clear HV3_4
      have HV4_5 := Aside0.mk (Kd.R_mono hv4 (ok' := fun k => W.heap.size < k) (fun k hk => Nat.lt_of_lt_of_le HZ4.out hk))
      clear hv4
      have HQ5 := Aside0.mk (manyS_rd w0 h A b c q4 w5 HS.out HR5.out)
      clear hr1 hk1 hp HQ4 HR4 HB4 HK4 HP4 HZ4
      go_wp2_with fail
      refine HQ5.out.mono ?_
      intro e w6 hq
      cases hp : pMany (pStyle b) b q4 with
      | none =>
       rw [hp] at hq
       obtain ⟨⟨T, v, rfl⟩, hbl⟩ := hq
       exact ⟨rfl, by rw [HP5.out, hp]; exact ⟨⟨T, v, rfl⟩, hbl⟩⟩
      | some z =>
       obtain ⟨x5, q5⟩ := z
       rw [hp] at hq
       obtain ⟨⟨v, rfl, hv5⟩, hr1, hk1⟩ := hq
       obtain ⟨R5, k5, hs1⟩ := Kd.R_slice hv5
       subst hs1
       have HP6 : Aside0 (pLoc b p = some (⟨x0, x1, x2, x3, x4, x5⟩, q5)) := ⟨by rw [HP5.out, hp]; rfl⟩
       have HR6 := Aside0.mk hr1
       have HK6 := Aside0.mk (HK5.out.trans hk1)
       have HZ6 := Aside0.mk (Nat.lt_of_lt_of_le HZ5.out (hk1.size hr1))
       have HB6 := Aside0.mk (hk1 _ _ HB5.out (Nat.ne_of_gt HG.out))
       have HV3_6 := Aside0.mk (R_keptR HV3_5.out hk1 (fun k hk => by have := HG.out; omega))
       clear HV3_5
       have HV4_6 := Aside0.mk (R_keptR HV4_5.out hk1 (fun k hk => by have := HG.out; omega))
       clear HV4_5
       have HV5_6 := Aside0.mk (Kd.R_mono hv5 (ok' := fun k => W.heap.size < k) (fun k hk => Nat.lt_of_lt_of_le HZ5.out hk))
       clear hv5
       clear hr1 hk1 hp HQ5 HR5 HB5 HK5 HP5 HZ5
       have hf_0 := blk_frozen HB6.out 0
       have hc_0 := blk_cell HB6.out 0
       have hf_1 := blk_frozen HB6.out 1
       have hc_1 := blk_cell HB6.out 1
       have hf_2 := blk_frozen HB6.out 2
       have hc_2 := blk_cell HB6.out 2
       have hf_3 := blk_frozen HB6.out 3
       have hc_3 := blk_cell HB6.out 3
       have hf_4 := blk_frozen HB6.out 4
       have hc_4 := blk_cell HB6.out 4
       have hf_5 := blk_frozen HB6.out 5
       have hc_5 := blk_cell HB6.out 5
       have hu1 := Tryz.underlying44
       go_wp2
       have hb1 : ((((((w6.setCell ⟨W.heap.size, 0, none⟩ (.string x0)).setCell ⟨W.heap.size, 1, none⟩ (.int .i64 x1)).setCell ⟨W.heap.size, 2, none⟩ (.int .i64 x2)).setCell ⟨W.heap.size, 3, none⟩ (.slice R3 x3.length k3)).setCell ⟨W.heap.size, 4, none⟩ (.slice R4 x4.length k4)).setCell ⟨W.heap.size, 5, none⟩ (.slice R5 x5.length k5)).heap[W.heap.size]? = some (.cells #[.string x0, .int .i64 x1, .int .i64 x2, .slice R3 x3.length k3, .slice R4 x4.length k4, .slice R5 x5.length k5] 44 (0, 0)) := by simpa using (blk_set (blk_set (blk_set (blk_set (blk_set (blk_set HB6.out 0 (.string x0)) 1 (.int .i64 x1)) 2 (.int .i64 x2)) 3 (.slice R3 x3.length k3)) 4 (.slice R4 x4.length k4)) 5 (.slice R5 x5.length k5))
       have hv3 := Kd.R_mono (Kd.R_far (Kd.R_far (Kd.R_far (Kd.R_far (Kd.R_far (Kd.R_far HV3_6.out (p := ⟨W.heap.size, 0, none⟩) (fun k hk => Nat.ne_of_gt hk) (.string x0)) (p := ⟨W.heap.size, 1, none⟩) (fun k hk => Nat.ne_of_gt hk) (.int .i64 x1)) (p := ⟨W.heap.size, 2, none⟩) (fun k hk => Nat.ne_of_gt hk) (.int .i64 x2)) (p := ⟨W.heap.size, 3, none⟩) (fun k hk => Nat.ne_of_gt hk) (.slice R3 x3.length k3)) (p := ⟨W.heap.size, 4, none⟩) (fun k hk => Nat.ne_of_gt hk) (.slice R4 x4.length k4)) (p := ⟨W.heap.size, 5, none⟩) (fun k hk => Nat.ne_of_gt hk) (.slice R5 x5.length k5)) (ok' := fun k => W.heap.size ≤ k) (fun k hk => Nat.le_of_lt hk)
       have hv4 := Kd.R_mono (Kd.R_far (Kd.R_far (Kd.R_far (Kd.R_far (Kd.R_far (Kd.R_far HV4_6.out (p := ⟨W.heap.size, 0, none⟩) (fun k hk => Nat.ne_of_gt hk) (.string x0)) (p := ⟨W.heap.size, 1, none⟩) (fun k hk => Nat.ne_of_gt hk) (.int .i64 x1)) (p := ⟨W.heap.size, 2, none⟩) (fun k hk => Nat.ne_of_gt hk) (.int .i64 x2)) (p := ⟨W.heap.size, 3, none⟩) (fun k hk => Nat.ne_of_gt hk) (.slice R3 x3.length k3)) (p := ⟨W.heap.size, 4, none⟩) (fun k hk => Nat.ne_of_gt hk) (.slice R4 x4.length k4)) (p := ⟨W.heap.size, 5, none⟩) (fun k hk => Nat.ne_of_gt hk) (.slice R5 x5.length k5)) (ok' := fun k => W.heap.size ≤ k) (fun k hk => Nat.le_of_lt hk)
       have hv5 := Kd.R_mono (Kd.R_far (Kd.R_far (Kd.R_far (Kd.R_far (Kd.R_far (Kd.R_far HV5_6.out (p := ⟨W.heap.size, 0, none⟩) (fun k hk => Nat.ne_of_gt hk) (.string x0)) (p := ⟨W.heap.size, 1, none⟩) (fun k hk => Nat.ne_of_gt hk) (.int .i64 x1)) (p := ⟨W.heap.size, 2, none⟩) (fun k hk => Nat.ne_of_gt hk) (.int .i64 x2)) (p := ⟨W.heap.size, 3, none⟩) (fun k hk => Nat.ne_of_gt hk) (.slice R3 x3.length k3)) (p := ⟨W.heap.size, 4, none⟩) (fun k hk => Nat.ne_of_gt hk) (.slice R4 x4.length k4)) (p := ⟨W.heap.size, 5, none⟩) (fun k hk => Nat.ne_of_gt hk) (.slice R5 x5.length k5)) (ok' := fun k => W.heap.size ≤ k) (fun k hk => Nat.le_of_lt hk)
       refine bodyPost_ret (results_cell_row rfl _ _ W.heap.size 44 #[.string x0, .int .i64 x1, .int .i64 x2, .slice R3 x3.length k3, .slice R4 x4.length k4, .slice R5 x5.length k5] (0, 0) _ rfl hb1 Tryz.underlying44 rfl (by kernel_rfl)) rfl ?_
       rw [HP6.out]
       exact ⟨⟨_, rfl, _, rfl, k44_mkM _ _ _ (⟨x0, x1, x2, x3, x4, x5⟩ : S44) hv3 hv4 hv5⟩, (RdAt.box (RdAt.box (RdAt.box (RdAt.box (RdAt.box (RdAt.box HR6.out HG.out _ _) HG.out _ _) HG.out _ _) HG.out _ _) HG.out _ _) HG.out _ _), (KeptR.box (KeptR.box (KeptR.box (KeptR.box (KeptR.box (KeptR.box HK6.out (Nat.le_refl _) _ _) (Nat.le_refl _) _ _) (Nat.le_refl _) _ _) (Nat.le_refl _) _ _) (Nat.le_refl _) _ _) (Nat.le_refl _) _ _)⟩
set_option maxHeartbeats 4000000 in
set_option maxRecDepth 100000 in
theorem manyL_rd (w0 : World) (h : Nat) (A : Option Addr) (b : List Int) (c p : Nat) (W : World) (hs : Src w0 A b c) (hr : RdAt w0 h A b c p W) :
  Calls Tryz.prog 37 #[.pointer (some ⟨h, 0, none⟩), .func (.func 38) #[.pointer (some ⟨h, 0, none⟩)] #[]] W fun e W' => Rd w0 h A b c W (VR k44 44 w0 W) e W' (pMany (pLoc b) b p) := by
 have HS := Aside0.mk hs
 have hlb := hs.len
 have HG : Aside0 (h < W.heap.size) := ⟨blk_lt hr.blk⟩
 have HP0 : Aside0 (pMany (pLoc b) b p = (pNum b p).bind fun z => if z.1 < 0 ∨ ((b.length : Int) - z.2) / 8 < z.1 then none else pTimes (pLoc b) z.1.toNat z.2) := ⟨rfl⟩
 have HQ0 := Aside0.mk (number_rd w0 h A b c p W hs hr)
 clear hs hr
 go_enter Tryz.func37, Tryz.ntmps37
 go_wp2_with fail
 refine HQ0.out.mono ?_
 intro e w1 hq
 cases hp : pNum b p with
 | none =>
  rw [hp] at hq
  obtain ⟨⟨T, v, rfl⟩, hbl⟩ := hq
  exact ⟨rfl, by rw [HP0.out, hp]; exact ⟨⟨T, v, rfl⟩, hbl⟩⟩
 | some z =>
  obtain ⟨n, q0⟩ := z
  rw [hp] at hq
  obtain ⟨⟨v, rfl, rfl⟩, hr1, hk1⟩ := hq
  have HP1 : Aside0 (pMany (pLoc b) b p = if n < 0 ∨ ((b.length : Int) - q0) / 8 < n then none else pTimes (pLoc b) n.toNat q0) := ⟨by rw [HP0.out, hp]; rfl⟩
  have hpos := hr1.pos
  have c0 : w1.cell? ⟨h, 0, none⟩ = some (.slice A b.length c) := blk_cell hr1.blk 0
  have c1 : w1.cell? ⟨h, 1, none⟩ = some (.int .i64 (q0 : Int)) := blk_cell hr1.blk 1
  have HR1 := Aside0.mk hr1
  have HK1 := Aside0.mk hk1
  have hw1 : wrap64 ((b.length : Int) - (q0 : Int)) = (b.length : Int) - (q0 : Int) := by rw [wrap64]; omega
  have hw2 : wrap64 (((b.length : Int) - (q0 : Int)) / 8) = ((b.length : Int) - (q0 : Int)) / 8 := by rw [wrap64]; omega
  have hdd : ((b.length : Int) - (q0 : Int)) / 8 ≤ 125000000000 := by omega
  clear hr1 hk1 hp HQ0 HP0
  by_cases hbad : n < 0 ∨ ((b.length : Int) - (q0 : Int)) / 8 < n
  ·have HPP : Aside0 (pMany (pLoc b) b p = none) := ⟨by rw [HP1.out, if_pos hbad]⟩
   by_cases hn0 : n < 0
   ·have e1 : decide (n < 0) = true := decide_eq_true hn0
    clear hbad hn0
    go_wp2
    go_quiet (fail)
    go_wp2
    refine ⟨rfl, ?_⟩
    rw [HPP.out]
    exact ⟨⟨_, _, rfl⟩, below_step HR1.out.below (pw_below_drewN (Below.refl _ _) _)⟩
   ·have e1 : decide (n < 0) = false := decide_eq_false hn0
    have e2 : decide (((b.length : Int) - (q0 : Int)) / 8 < n) = true := decide_eq_true (by omega)
    clear hbad hn0
    go_wp2
    go_quiet (fail)
    go_wp2
    refine ⟨rfl, ?_⟩
    rw [HPP.out]
    exact ⟨⟨_, _, rfl⟩, below_step HR1.out.below (pw_below_drewN (Below.refl _ _) _)⟩
  ·obtain ⟨m, rfl⟩ : ∃ m : Nat, n = (m : Int) := ⟨n.toNat, by omega⟩
   have hm : m ≤ 125000000000 := by omega
   have e1 : decide ((m : Int) < 0) = false := decide_eq_false (by omega)
   have e2 : decide (((b.length : Int) - (q0 : Int)) / 8 < (m : Int)) = false := decide_eq_false (by omega)
   have HPP : Aside0 (pMany (pLoc b) b p = pTimes (pLoc b) m q0) := ⟨by rw [HP1.out, if_neg hbad, Int.toNat_natCast]⟩
   clear hbad HP1
   go_wp2
   go_quiet (fail)
   have HR2 : Aside0 (RdAt w0 h A b c q0 (w1.drewN nq)) := ⟨⟨HR1.out.blk, pw_below_drewN HR1.out.below _, HR1.out.ge, HR1.out.pos⟩⟩
   have HK2 : Aside0 (KeptR h W (w1.drewN nq)) := ⟨HK1.out.trans (KeptR.below (pw_below_drewN (Below.refl _ _) _))⟩
   have HR0 : Aside0 (Kd.R k44 44 (w1.drewN nq) w0.heap.size (fun k => W.heap.size ≤ k) (.slice none 0 0) []) := ⟨Kd.R_nil _ _ _ _ _⟩
   have HT0 : Aside0 (pTimes (pLoc b) m q0 = (pTimes (pLoc b) (m - 0) q0).map fun y => ([] ++ y.1, y.2)) := ⟨by simp⟩
   clear HR1 HK1 c0 c1
   generalize w1.drewN nq = w2 at *
   go_wp2
   go_loopg [6, 33] m (fun gg s6 s33 wr => ∃ (i : Nat) (xs : List S44) (q : Nat), i ≤ m ∧ m - i ≤ gg ∧ s33 = .int .i64 i ∧ Aside0 (xs.length = i) ∧ Aside0 (pTimes (pLoc b) m q0 = (pTimes (pLoc b) (m - i) q).map fun y => (xs ++ y.1, y.2)) ∧ Aside0 (Kd.R k44 44 wr w0.heap.size (fun k => W.heap.size ≤ k) s6 xs) ∧ Aside0 (RdAt w0 h A b c q wr) ∧ Aside0 (KeptR h W wr))
   case atStart => exact ⟨0, [], q0, by omega, by omega, rfl, ⟨rfl⟩, HT0, HR0, HR2, HK2⟩
   case round =>
    clear HR0 HR2 HK2 HT0
    obtain ⟨i, xs, q, hi, hgg, rfl, HL, HT, HX, HW, HK⟩ := hrel
    obtain ⟨A6, c6, hs6⟩ := Kd.R_slice HX.out
    subst hs6
    by_cases hil : i < m
    ·have hilz : (i : Int) < (m : Int) := by omega
     have HQ := Aside0.mk (locale_rd w0 h A b c q wr HS.out HW.out)
     go_wp2_with fail
     refine HQ.out.mono ?_
     intro e w3 hq
     cases hp : pLoc b q with
     | none =>
      rw [hp] at hq
      obtain ⟨⟨T, v, rfl⟩, hbl⟩ := hq
      exact ⟨rfl, by rw [HPP.out, HT.out, show m - i = (m - i - 1) + 1 from by omega, pTimes, hp]; exact ⟨⟨T, v, rfl⟩, hbl⟩⟩
     | some z =>
      obtain ⟨x, q1⟩ := z
      rw [hp] at hq
      obtain ⟨⟨v, rfl, cs, rfl, hm⟩, hr1, hk1⟩ := hq
      obtain ⟨u3, u4, u5, rfl, gu3, gu4, gu5⟩ := k44_openM hm
      have hv := hm
      clear gu3
      clear gu4
      clear gu5
      clear hm
      have HT1 : Aside0 (pTimes (pLoc b) m q0 = (pTimes (pLoc b) (m - (i + 1)) q1).map fun y => (xs ++ [x] ++ y.1, y.2)) := ⟨by
       rw [HT.out, show m - i = (m - (i + 1)) + 1 from by omega, pTimes, hp]
       simp only [Option.bind_some, Option.map_map]
       congr 1
       funext y
       simp⟩
      have HX1 := Aside0.mk (R_keptR HX.out hk1 (fun k hk => by have := HG.out; omega))
      have HW1 := Aside0.mk hr1
      have HK1 := Aside0.mk (HK.out.trans hk1)
      have HSZ := Aside0.mk (HK.out.size HW.out)
      have HSY := Aside0.mk (hk1.size hr1)
      have hlx : xs.length ≤ 125000000000 := by rw [HL.out]; omega
      have HLX := Aside0.mk hlx
      have HOW : Aside0 (∀ k, (Value.slice A6 xs.length c6).ownBlock = some k → k < wr.heap.size) := ⟨fun k hk => Kd.R_own_lt HX.out hk⟩
      clear hp hr1 hk1 HQ hlx HT HX HK
      go_wp2_with (at_builtin; go_loud (refine Kd.R_append k44 (w0 := w0) w0.heap.size rfl (.tmp 35) (.tmp 38) 26 44 (.agg #[.string ⟨#[]⟩, .int .i64 0, .int .i64 0, .slice none 0 0, .slice none 0 0, .slice none 0 0]) 104 rfl Tryz.underlying26 (by kernel_rfl) rfl (by show 0 < 6; decide) (by decide) (.slice A6 xs.length c6) xs x [.string x.f0, .int .i64 x.f1, .int .i64 x.f2, u3, u4, u5] (fun k => W.heap.size ≤ k) (fun k => wr.heap.size ≤ k) rfl rfl hv ?hok ?hf HX1.out ?hB ?hb ?hl ?_); (case hok => go_loud (exact (fun k hk => ⟨Nat.le_trans HSZ.out hk, fun e => by have := HOW.out k e.symm; omega⟩))); (case hf => go_loud (exact (fun k hk => by have := HSZ.out; have := HSY.out; omega))); (case hB => go_loud (exact HW1.out.below)); (case hb => go_loud (exact HW1.out.below.size)); (case hl => go_loud (have := HLX.out; omega)); intro v4 w4 ho hb hg hat)
      have HR5 : Aside0 (RdAt w0 h A b c q1 w4) := ⟨⟨blk_grown HW1.out.blk hg (fun e => by have := HX1.out.1 _ e.symm; have := HG.out; omega), hb, HW1.out.ge, HW1.out.pos⟩⟩
      have HK5 : Aside0 (KeptR h W w4) := ⟨fun k o hko hne => blk_grown (HK1.out k o hko hne) hg (fun e => by have := HX1.out.1 _ e.symm; have := blk_lt hko; omega)⟩
      have HX5 := Aside0.mk ho
      have HL5 : Aside0 ((xs ++ [x]).length = i + 1) := ⟨by rw [List.length_append, HL.out]; rfl⟩
      clear ho hb hg hat hv HX1 HW1 HK1 HL HOW HSZ HSY HLX
      generalize xs ++ [x] = ys at *
      obtain ⟨A7, c7, hs7⟩ := Kd.R_slice HX5.out
      subst hs7
      go_wp2
      go_roundg (m - (i + 1))
      case measure => omega
      case rel => exact ⟨i + 1, ys, q1, by omega, by omega, by go_num, HL5, HT1, HX5, HR5, HK5⟩
    ·have he : i = m := by omega
     have hilz : decide ((i : Int) < (m : Int)) = false := by simp; omega
     have HPQ : Aside0 (pMany (pLoc b) b p = some (xs, q)) := ⟨by rw [HPP.out, HT.out, he, Nat.sub_self, pTimes]; simp⟩
     have HCL := Aside0.mk (cloneL A6 c6 xs wr W.heap.size w0.heap.size HX.out (HK.out.size HW.out) HW.out.below.size (by rw [HL.out]; omega))
     clear he HPP HT HL
     go_wp2_with fail
     refine HCL.out.mono ?_
     rintro e w5 ⟨v5, rfl, hR5, hB5⟩
     have HO := Aside0.mk hR5
     have HR6 : Aside0 (RdAt w0 h A b c q w5) := ⟨⟨blk_below HW.out.blk hB5, below_step HW.out.below hB5, HW.out.ge, HW.out.pos⟩⟩
     have HK6 : Aside0 (KeptR h W w5) := ⟨HK.out.trans (KeptR.below hB5)⟩
     obtain ⟨A7, c7, hs7⟩ := Kd.R_slice hR5
     subst hs7
     clear hR5 hB5 HCL
     go_wp2
     go_ret
     rw [HPQ.out]
     exact ⟨⟨_, rfl, HO.out⟩, HR6.out, HK6.out⟩
end Go.Proofs.YtiocgaekoeekgaaGreat.P
end
section
namespace Go.Proofs.YtiocgaekoeekgaaGreat.P
open Go.RowKit Go.Proofs.YtiocgaekoeekgaaGreatW.PrintWords Go.Proofs.YtiocgaekoeekgaaGreatW.PrintLast Go.Proofs.YtiocgaekoeekgaaGreatW.PrintMore
attribute [local go_sem] max2_int min2_int max_two min_two max_three min_three max_four min_four   
set_option linter.unusedVariables false
set_option linter.unusedSimpArgs false
attribute [local go_sem] Oper.semAt_some
set_option maxHeartbeats 4000000 in
theorem catch5_panicking (p q : Addr) (u : TypeId) (pv x y : Value) (older : List PanicEntry) (w : World) (hc : w.cell? p = some x) (hz : w.frozen? p = false) (hd : w.cell? q = some y) (hy : w.frozen? q = false) (hpq : p.block ≠ q.block) :
  CallsD Tryz.prog 36 #[.pointer (some p), .pointer (some q)] (.panicking ({ v := .iface u pv, recovered := false } :: older)) w fun e u' w' =>
   e = .returned (.tuple #[]) ∧ u' = .panicking ({ v := .iface u pv, recovered := true } :: older) ∧ w' = (w.setCell p (.slice none 0 0)).setCell q (.bool false) := by
 refine callsD_of_wpS Tryz.func36 rfl fun c₀ cs hu => ?_
 apply wpS_seq
 apply wpS_region
 simp [wpOpsS, go_sem, recoverD, hu, Tryz.ntmps36, Exit.thenS]
 apply wpS_seq
 apply wpS_region
 simp [wpOpsS, go_sem, Exit.thenS]
 refine wpS_cond (t := true) (by simp [Act.eval, Array.replicate]) ?_
 simp only [if_true]
 apply wpS_region
 have hq2 : (w.setCell p (.slice none 0 0)).cell? q = some y := by rw [World.cell?_setCell_other _ _ _ _ (fun h => hpq (congrArg Addr.block h))]; exact hd
 have hq3 : (w.setCell p (.slice none 0 0)).frozen? q = false := by simpa using hy
 simp [wpOpsS, go_sem, hc, hz, hq2, hq3, bodyPostS, results, Tryz.results36]
theorem catch5_idle (p q : Addr) (w : World) :
  CallsD Tryz.prog 36 #[.pointer (some p), .pointer (some q)] .returning w fun e u' w' => e = .returned (.tuple #[]) ∧ u' = .returning ∧ w' = w := by
 refine callsD_of_wpS Tryz.func36 rfl fun c₀ cs hu => ?_
 apply wpS_seq
 apply wpS_region
 simp [wpOpsS, go_sem, recoverD, hu, Tryz.ntmps36, Exit.thenS]
 apply wpS_seq
 apply wpS_region
 simp [wpOpsS, go_sem, Exit.thenS]
 refine wpS_cond (t := false) (by simp [Act.eval, Array.replicate]) ?_
 simp only [Bool.false_eq_true, if_false]
 refine wpS_of_wp (wp_skip ?_)
 cases c₀
 simp_all [bodyPostS, results, Tryz.results36]
noncomputable def decP (b : List Int) : Option (List S44) := match pMany (pLoc b) b 0 with
 | none => none
 | some (l, q) => if q < b.length then none else if rightP5 l = true then some l else none
def VDec (w0 : World) (o : Option (List S44)) (v : Value) (w' : World) : Prop := match o with
 | none => v = .slice none 0 0
 | some l => Kd.R k44 44 w' w0.heap.size (fun k => w0.heap.size ≤ k) v l
set_option maxHeartbeats 16000000 in
set_option maxRecDepth 100000 in
theorem decode5_walk (A : Option Addr) (c : Nat) (b : List Int) (w : World) (hr : Kd.C (Kd.int .u8) w A b.length b) (hc : b.length ≤ c) (hlen : b.length ≤ 1000000000000) (hok : ∀ l q, pMany (pLoc b) b 0 = some (l, q) → okLocs l) :
  Calls Tryz.prog 15 #[.slice A b.length c] w fun e w' => ∃ v : Value, e = .returned (.tuple #[v, .bool (decP b).isSome]) ∧ VDec w (decP b) v w' ∧ Below w.heap.size w w' := by
 have hmf : ∀ (fn : Fn) (first cap : Array Value) (w : World), (Instr.makeFunc fn first cap).run Tryz.prog w = .ok (.func fn first cap) w := fun _ _ _ _ => rfl
 have HOK := Aside0.mk hok
 have hbB : Below w.heap.size w ((w.alloc (.cells #[.slice none 0 0] 26)).alloc (.cells #[.bool false] 4)) := below_alloc (below_alloc (Below.refl _ _) _) _
 have HBB := Aside0.mk hbB
 have HS : Aside0 (Src ((w.alloc (.cells #[.slice none 0 0] 26)).alloc (.cells #[.bool false] 4)) A b c) := ⟨⟨Kd.C_alloc (Kd.C_alloc hr _) _, hc, hlen⟩⟩
 have hsz : ((w.alloc (.cells #[.slice none 0 0] 26)).alloc (.cells #[.bool false] 4)).heap.size = w.heap.size + 1 + 1 := by simp
 have HP2 : Aside0 (((w.alloc (.cells #[.slice none 0 0] 26)).alloc (.cells #[.bool false] 4)).heap[w.heap.size]? = some (.cells #[.slice none 0 0] 26 (0, 0))) := ⟨blk_below (blk_new w _) (below_alloc (Below.refl _ _) _)⟩
 have HQ2 : Aside0 (((w.alloc (.cells #[.slice none 0 0] 26)).alloc (.cells #[.bool false] 4)).heap[w.heap.size + 1]? = some (.cells #[.bool false] 4 (0, 0))) := ⟨by have := blk_new (w.alloc (.cells #[.slice none 0 0] 26)) (.cells #[.bool false] 4); simpa using this⟩
 have HR3 : Aside0 (RdAt ((w.alloc (.cells #[.slice none 0 0] 26)).alloc (.cells #[.bool false] 4)) (w.heap.size + 1 + 1) A b c 0 (((w.alloc (.cells #[.slice none 0 0] 26)).alloc (.cells #[.bool false] 4)).alloc (.cells #[.slice A b.length c, .int .i64 0] 82))) := ⟨by
  rw [← hsz]
  exact ⟨blk_new _ _, below_alloc (Below.refl _ _) _, Nat.le_refl _, Nat.zero_le _⟩⟩
 have HM := Aside0.mk (manyL_rd ((w.alloc (.cells #[.slice none 0 0] 26)).alloc (.cells #[.bool false] 4)) (w.heap.size + 1 + 1) A b c 0 (((w.alloc (.cells #[.slice none 0 0] 26)).alloc (.cells #[.bool false] 4)).alloc (.cells #[.slice A b.length c, .int .i64 0] 82)) HS.out HR3.out)
 have HZ3 : Aside0 (((w.alloc (.cells #[.slice none 0 0] 26)).alloc (.cells #[.bool false] 4)).heap.size = w.heap.size + 1 + 1 ∧ w.heap.size + 3 ≤ (((w.alloc (.cells #[.slice none 0 0] 26)).alloc (.cells #[.bool false] 4)).alloc (.cells #[.slice A b.length c, .int .i64 0] 82)).heap.size) := ⟨hsz, by simp⟩
 have HK3 : Aside0 (Below ((w.alloc (.cells #[.slice none 0 0] 26)).alloc (.cells #[.bool false] 4)).heap.size ((w.alloc (.cells #[.slice none 0 0] 26)).alloc (.cells #[.bool false] 4)) (((w.alloc (.cells #[.slice none 0 0] 26)).alloc (.cells #[.bool false] 4)).alloc (.cells #[.slice A b.length c, .int .i64 0] 82))) := ⟨below_alloc (Below.refl _ _) _⟩
 clear hr hc hlen hok hbB hsz
 go_enter_defers Tryz.func15, Tryz.ntmps15
 go_wp2_with fail
 generalize (((w.alloc (.cells #[.slice none 0 0] 26)).alloc (.cells #[.bool false] 4)).alloc (.cells #[.slice A b.length c, .int .i64 0] 82)) = W3 at *
 generalize ((w.alloc (.cells #[.slice none 0 0] 26)).alloc (.cells #[.bool false] 4)) = W2 at *
 refine HM.out.mono ?_
 intro e w1 hq
 cases hp : pMany (pLoc b) b 0 with
 | none =>
  rw [hp] at hq
  obtain ⟨⟨T, v, rfl⟩, hbl⟩ := hq
  have hd : decP b = none := by unfold decP; rw [hp]
  have hP := blk_below HP2.out hbl
  have hQ := blk_below HQ2.out hbl
  have HBW : Aside0 (Below w.heap.size w w1) := ⟨below_step HBB.out hbl⟩
  have hP1 := blk_set hP 0 (.slice none 0 0)
  have hQ1 : (w1.setCell ⟨w.heap.size, 0, none⟩ (.slice none 0 0)).heap[w.heap.size + 1]? = some (.cells #[.bool false] 4 (0, 0)) := (heap_setCell_other w1 ⟨w.heap.size, 0, none⟩ _ _ (by show w.heap.size + 1 ≠ w.heap.size; omega)).trans hQ
  refine leaves_cons (f := 36) (args := #[.pointer (some ⟨w.heap.size, 0, none⟩), .pointer (some ⟨w.heap.size + 1, 0, none⟩)]) (by simp) (by simp [go_sem]) ?_
  refine (catch5_panicking ⟨w.heap.size, 0, none⟩ ⟨w.heap.size + 1, 0, none⟩ T v _ _ [] w1 (blk_cell hP 0) (blk_frozen hP 0) (blk_cell hQ 0) (blk_frozen hQ 0) (by show w.heap.size ≠ w.heap.size + 1; omega)).mono ?_
  rintro e u' w'' ⟨rfl, rfl, rfl⟩
  have hc1 : ((w1.setCell ⟨w.heap.size, 0, none⟩ (.slice none 0 0)).setCell ⟨w.heap.size + 1, 0, none⟩ (.bool false)).cell? ⟨w.heap.size, 0, none⟩ = some (.slice none 0 0) := by
   have := (heap_setCell_other (w1.setCell ⟨w.heap.size, 0, none⟩ (.slice none 0 0)) ⟨w.heap.size + 1, 0, none⟩ w.heap.size (.bool false) (by show w.heap.size ≠ w.heap.size + 1; omega)).trans hP1
   exact blk_cell this 0
  have hc2 : ((w1.setCell ⟨w.heap.size, 0, none⟩ (.slice none 0 0)).setCell ⟨w.heap.size + 1, 0, none⟩ (.bool false)).cell? ⟨w.heap.size + 1, 0, none⟩ = some (.bool false) := blk_cell (blk_set hQ1 0 (.bool false)) 0
  have hB2 : Below w.heap.size w ((w1.setCell ⟨w.heap.size, 0, none⟩ (.slice none 0 0)).setCell ⟨w.heap.size + 1, 0, none⟩ (.bool false)) := Below.setCell (p := ⟨w.heap.size + 1, 0, none⟩) (Below.setCell (p := ⟨w.heap.size, 0, none⟩) HBW.out (Nat.le_refl _) _) (by show w.heap.size ≤ w.heap.size + 1; omega) _
  generalize (w1.setCell ⟨w.heap.size, 0, none⟩ (.slice none 0 0)).setCell ⟨w.heap.size + 1, 0, none⟩ (.bool false) = w2 at *
  rw [hd]
  clear hP hQ hP1 hQ1
  simp [Leaves, settle, results, Tryz.results15, go_sem, hc1, hc2]
  exact ⟨rfl, hB2⟩
 | some z => 
  obtain ⟨l, q⟩ := z
  rw [hp] at hq
  obtain ⟨⟨v, rfl, hv⟩, hr1, hk1⟩ := hq
  obtain ⟨A6, c6, hs6⟩ := Kd.R_slice hv
  subst hs6
  have hv' : Kd.R k44 44 w1 w.heap.size (fun k => w.heap.size + 3 ≤ k) (.slice A6 l.length c6) l := Kd.R_lower (Kd.R_mono hv (fun k hk => Nat.le_trans HZ3.out.2 hk)) (by have := HZ3.out.1; omega)
  have HR1 := Aside0.mk hv'
  have HOL := Aside0.mk (HOK.out l q hp)
  have c1 : w1.cell? ⟨w.heap.size + 1 + 1, 1, none⟩ = some (.int .i64 (q : Int)) := blk_cell hr1.blk 1
  have HPW := Aside0.mk (blk_below HP2.out hr1.below)
  have HQW := Aside0.mk (blk_below HQ2.out hr1.below)
  have HBW : Aside0 (Below w.heap.size w w1) := ⟨below_step HBB.out hr1.below⟩
  have hp0 := blk_cell HPW.out 0
  have hq0 := blk_cell HQW.out 0
  have hpf := blk_frozen HPW.out 0
  have hqf := blk_frozen HQW.out 0
  by_cases hlt : q < b.length
  ·have HD : Aside0 (decP b = none) := ⟨by unfold decP; rw [hp]; exact if_pos hlt⟩
   have e1 : decide ((q : Int) < (b.length : Int)) = true := decide_eq_true (by omega)
   have e1' : decide (q < b.length) = true := decide_eq_true hlt
   clear hv hv' hr1 hk1 hp hlt
   go_wp2_with fail
   refine leaves_cons (f := 36) (args := #[.pointer (some ⟨w.heap.size, 0, none⟩), .pointer (some ⟨w.heap.size + 1, 0, none⟩)]) (by simp) (by simp [go_sem]) ?_
   refine (catch5_idle ⟨w.heap.size, 0, none⟩ ⟨w.heap.size + 1, 0, none⟩ _).mono ?_
   rintro e u' w'' ⟨rfl, rfl, rfl⟩
   have hP1 := blk_set HPW.out 0 (.slice none 0 0)
   have hQ1 : (w1.setCell ⟨w.heap.size, 0, none⟩ (.slice none 0 0)).heap[w.heap.size + 1]? = some (.cells #[.bool false] 4 (0, 0)) := (heap_setCell_other w1 ⟨w.heap.size, 0, none⟩ _ _ (by show w.heap.size + 1 ≠ w.heap.size; omega)).trans HQW.out
   have hc1 : ((w1.setCell ⟨w.heap.size, 0, none⟩ (.slice none 0 0)).setCell ⟨w.heap.size + 1, 0, none⟩ (.bool false)).cell? ⟨w.heap.size, 0, none⟩ = some (.slice none 0 0) := by
    have := (heap_setCell_other (w1.setCell ⟨w.heap.size, 0, none⟩ (.slice none 0 0)) ⟨w.heap.size + 1, 0, none⟩ w.heap.size (.bool false) (by show w.heap.size ≠ w.heap.size + 1; omega)).trans hP1
    exact blk_cell this 0
   have hc2 : ((w1.setCell ⟨w.heap.size, 0, none⟩ (.slice none 0 0)).setCell ⟨w.heap.size + 1, 0, none⟩ (.bool false)).cell? ⟨w.heap.size + 1, 0, none⟩ = some (.bool false) := blk_cell (blk_set hQ1 0 (.bool false)) 0
   have hB2 : Below w.heap.size w ((w1.setCell ⟨w.heap.size, 0, none⟩ (.slice none 0 0)).setCell ⟨w.heap.size + 1, 0, none⟩ (.bool false)) := Below.setCell (p := ⟨w.heap.size + 1, 0, none⟩) (Below.setCell (p := ⟨w.heap.size, 0, none⟩) HBW.out (Nat.le_refl _) _) (by show w.heap.size ≤ w.heap.size + 1; omega) _
   have HV : VDec w none (.slice none 0 0) ((w1.setCell ⟨w.heap.size, 0, none⟩ (.slice none 0 0)).setCell ⟨w.heap.size + 1, 0, none⟩ (.bool false)) := rfl
   generalize (w1.setCell ⟨w.heap.size, 0, none⟩ (.slice none 0 0)).setCell ⟨w.heap.size + 1, 0, none⟩ (.bool false) = w3 at *
   rw [HD.out]
   simp [Leaves, settle, results, Tryz.results15, go_sem, hc1, hc2]
   exact ⟨HV, hB2⟩
  ·have e1 : decide ((q : Int) < (b.length : Int)) = false := decide_eq_false (by omega)
   have e1' : decide (q < b.length) = false := decide_eq_false hlt
   have HRT := Aside0.mk (right5_walk A6 c6 l w1 (Kd.R_reads' hv').2.2 (Kd.R_reads' hv').2.1 HOL.out)
   cases hrt : rightP5 l with
   | false =>
    rw [hrt] at HRT
    have HD : Aside0 (decP b = none) := ⟨by unfold decP; rw [hp]; show (if q < b.length then none else if rightP5 l = true then some l else none) = none; rw [if_neg hlt, hrt]; rfl⟩
    clear hv hv' hr1 hk1 hp hlt hrt hp0 hq0 hpf hqf
    go_wp2_with fail
    refine HRT.out.mono ?_
    rintro e w2 ⟨rfl, hB⟩
    replace HPW := Aside0.mk (blk_below HPW.out hB)
    replace HQW := Aside0.mk (blk_below HQW.out hB)
    replace HBW : Aside0 (Below w.heap.size w w2) := ⟨below_step HBW.out hB⟩
    have hp0 := blk_cell HPW.out 0
    have hq0 := blk_cell HQW.out 0
    have hpf := blk_frozen HPW.out 0
    have hqf := blk_frozen HQW.out 0
    clear hB HRT c1
    go_wp2_with fail
    refine leaves_cons (f := 36) (args := #[.pointer (some ⟨w.heap.size, 0, none⟩), .pointer (some ⟨w.heap.size + 1, 0, none⟩)]) (by simp) (by simp [go_sem]) ?_
    refine (catch5_idle ⟨w.heap.size, 0, none⟩ ⟨w.heap.size + 1, 0, none⟩ _).mono ?_
    rintro e u' w'' ⟨rfl, rfl, rfl⟩
    have hP1 := blk_set HPW.out 0 (.slice none 0 0)
    have hQ1 : (w2.setCell ⟨w.heap.size, 0, none⟩ (.slice none 0 0)).heap[w.heap.size + 1]? = some (.cells #[.bool false] 4 (0, 0)) := (heap_setCell_other w2 ⟨w.heap.size, 0, none⟩ _ _ (by show w.heap.size + 1 ≠ w.heap.size; omega)).trans HQW.out
    have hc1 : ((w2.setCell ⟨w.heap.size, 0, none⟩ (.slice none 0 0)).setCell ⟨w.heap.size + 1, 0, none⟩ (.bool false)).cell? ⟨w.heap.size, 0, none⟩ = some (.slice none 0 0) := by
     have := (heap_setCell_other (w2.setCell ⟨w.heap.size, 0, none⟩ (.slice none 0 0)) ⟨w.heap.size + 1, 0, none⟩ w.heap.size (.bool false) (by show w.heap.size ≠ w.heap.size + 1; omega)).trans hP1
     exact blk_cell this 0
    have hc2 : ((w2.setCell ⟨w.heap.size, 0, none⟩ (.slice none 0 0)).setCell ⟨w.heap.size + 1, 0, none⟩ (.bool false)).cell? ⟨w.heap.size + 1, 0, none⟩ = some (.bool false) := blk_cell (blk_set hQ1 0 (.bool false)) 0
    have hB2 : Below w.heap.size w ((w2.setCell ⟨w.heap.size, 0, none⟩ (.slice none 0 0)).setCell ⟨w.heap.size + 1, 0, none⟩ (.bool false)) := Below.setCell (p := ⟨w.heap.size + 1, 0, none⟩) (Below.setCell (p := ⟨w.heap.size, 0, none⟩) HBW.out (Nat.le_refl _) _) (by show w.heap.size ≤ w.heap.size + 1; omega) _
    have HV : VDec w none (.slice none 0 0) ((w2.setCell ⟨w.heap.size, 0, none⟩ (.slice none 0 0)).setCell ⟨w.heap.size + 1, 0, none⟩ (.bool false)) := rfl
    generalize (w2.setCell ⟨w.heap.size, 0, none⟩ (.slice none 0 0)).setCell ⟨w.heap.size + 1, 0, none⟩ (.bool false) = w3 at *
    rw [HD.out]
    simp [Leaves, settle, results, Tryz.results15, go_sem, hc1, hc2]
    exact ⟨HV, hB2⟩
   | true =>
    rw [hrt] at HRT
    have HD : Aside0 (decP b = some l) := ⟨by unfold decP; rw [hp]; show (if q < b.length then none else if rightP5 l = true then some l else none) = some l; rw [if_neg hlt, hrt]; rfl⟩
    clear hv hv' hr1 hk1 hp hlt hrt hp0 hq0 hpf hqf
    go_wp2_with fail
    refine HRT.out.mono ?_
    rintro e w2 ⟨rfl, hB⟩
    replace HPW := Aside0.mk (blk_below HPW.out hB)
    replace HQW := Aside0.mk (blk_below HQW.out hB)
    replace HBW : Aside0 (Below w.heap.size w w2) := ⟨below_step HBW.out hB⟩
    have HR2 := Aside0.mk (Kd.R_below HR1.out hB)
    have hp0 := blk_cell HPW.out 0
    have hq0 := blk_cell HQW.out 0
    have hpf := blk_frozen HPW.out 0
    have hqf := blk_frozen HQW.out 0
    clear hB HRT c1
    go_wp2_with fail
    refine leaves_cons (f := 36) (args := #[.pointer (some ⟨w.heap.size, 0, none⟩), .pointer (some ⟨w.heap.size + 1, 0, none⟩)]) (by simp) (by simp [go_sem]) ?_
    refine (catch5_idle ⟨w.heap.size, 0, none⟩ ⟨w.heap.size + 1, 0, none⟩ _).mono ?_
    rintro e u' w'' ⟨rfl, rfl, rfl⟩
    have hP1 := blk_set HPW.out 0 (.slice A6 l.length c6)
    have hQ1 : (w2.setCell ⟨w.heap.size, 0, none⟩ (.slice A6 l.length c6)).heap[w.heap.size + 1]? = some (.cells #[.bool false] 4 (0, 0)) := (heap_setCell_other w2 ⟨w.heap.size, 0, none⟩ _ _ (by show w.heap.size + 1 ≠ w.heap.size; omega)).trans HQW.out
    have hc1 : ((w2.setCell ⟨w.heap.size, 0, none⟩ (.slice A6 l.length c6)).setCell ⟨w.heap.size + 1, 0, none⟩ (.bool true)).cell? ⟨w.heap.size, 0, none⟩ = some (.slice A6 l.length c6) := by
     have := (heap_setCell_other (w2.setCell ⟨w.heap.size, 0, none⟩ (.slice A6 l.length c6)) ⟨w.heap.size + 1, 0, none⟩ w.heap.size (.bool true) (by show w.heap.size ≠ w.heap.size + 1; omega)).trans hP1
     exact blk_cell this 0
    have hc2 : ((w2.setCell ⟨w.heap.size, 0, none⟩ (.slice A6 l.length c6)).setCell ⟨w.heap.size + 1, 0, none⟩ (.bool true)).cell? ⟨w.heap.size + 1, 0, none⟩ = some (.bool true) := blk_cell (blk_set hQ1 0 (.bool true)) 0
    have hB2 : Below w.heap.size w ((w2.setCell ⟨w.heap.size, 0, none⟩ (.slice A6 l.length c6)).setCell ⟨w.heap.size + 1, 0, none⟩ (.bool true)) := Below.setCell (p := ⟨w.heap.size + 1, 0, none⟩) (Below.setCell (p := ⟨w.heap.size, 0, none⟩) HBW.out (Nat.le_refl _) _) (by show w.heap.size ≤ w.heap.size + 1; omega) _
    have HV : VDec w (some l) (.slice A6 l.length c6) ((w2.setCell ⟨w.heap.size, 0, none⟩ (.slice A6 l.length c6)).setCell ⟨w.heap.size + 1, 0, none⟩ (.bool true)) := Kd.R_mono (Kd.R_far (Kd.R_far HR2.out (p := ⟨w.heap.size, 0, none⟩) (fun k hk => by have := HZ3.out; show k ≠ w.heap.size; omega) _) (p := ⟨w.heap.size + 1, 0, none⟩) (fun k hk => by have := HZ3.out; show k ≠ w.heap.size + 1; omega) _) (fun k hk => by have := HZ3.out; omega)
    generalize (w2.setCell ⟨w.heap.size, 0, none⟩ (.slice A6 l.length c6)).setCell ⟨w.heap.size + 1, 0, none⟩ (.bool true) = w3 at *
    rw [HD.out]
    simp [Leaves, settle, results, Tryz.results15, go_sem, hc1, hc2]
    exact ⟨HV, hB2⟩
end Go.Proofs.YtiocgaekoeekgaaGreat.P
end
section
namespace Go.Proofs.YtiocgaekoeekgaaGreat.P
open Go.RowKit Go.Proofs.YtiocgaekoeekgaaGreatW.PrintWords Go.Proofs.YtiocgaekoeekgaaGreatW.PrintLast Go.Proofs.YtiocgaekoeekgaaGreatW.PrintMore
attribute [local go_sem] max2_int min2_int max_two min_two max_three min_three max_four min_four   
set_option linter.unusedVariables false
set_option linter.unusedSimpArgs false
attribute [local go_sem] Oper.semAt_some
set_option maxHeartbeats 16000000 in
set_option maxRecDepth 100000 in
theorem resolve5_miss (A : Option Addr) (c : Nat) (l : List S44) (id : ByteArray) (w : World) (hr : Kd.C k44 w A l.length l) (hc : l.length ≤ c) (hi : idxOf (hitL id) l < 0) :
  Calls Tryz.prog 23 #[.slice A l.length c, .string id] w fun e w' => e = .returned (.tuple #[.agg #[.string ⟨#[]⟩, .int .i64 0, .int .i64 0, .slice none 0 0, .slice none 0 0, .slice none 0 0], .bool false]) ∧ Below w.heap.size w w' := by
 have hmf : ∀ (fn : Fn) (first cap : Array Value) (w : World), (Instr.makeFunc fn first cap).run Tryz.prog w = .ok (.func fn first cap) w := fun _ _ _ _ => rfl
 have HB2 : Aside0 (Below w.heap.size w ((w.alloc (.cells #[.string id] 9)).alloc (.cells #[.string ⟨#[]⟩, .int .i64 0, .int .i64 0, .slice none 0 0, .slice none 0 0, .slice none 0 0] 44))) := ⟨below_alloc (below_alloc (Below.refl _ _) _) _⟩
 have HP2 : Aside0 (((w.alloc (.cells #[.string id] 9)).alloc (.cells #[.string ⟨#[]⟩, .int .i64 0, .int .i64 0, .slice none 0 0, .slice none 0 0, .slice none 0 0] 44)).heap[w.heap.size]? = some (.cells #[.string id] 9 (0, 0))) := ⟨blk_below (blk_new w _) (below_alloc (Below.refl _ _) _)⟩
 have HS2 : Aside0 (((w.alloc (.cells #[.string id] 9)).alloc (.cells #[.string ⟨#[]⟩, .int .i64 0, .int .i64 0, .slice none 0 0, .slice none 0 0, .slice none 0 0] 44)).heap[w.heap.size + 1]? = some (.cells #[.string ⟨#[]⟩, .int .i64 0, .int .i64 0, .slice none 0 0, .slice none 0 0, .slice none 0 0] 44 (0, 0))) := ⟨by have := blk_new (w.alloc (.cells #[.string id] 9)) (.cells #[.string ⟨#[]⟩, .int .i64 0, .int .i64 0, .slice none 0 0, .slice none 0 0, .slice none 0 0] 44); simpa using this⟩
 have HIX := Aside0.mk (indexFunc_loc (.func (.func 57) #[] #[.pointer (some ⟨w.heap.size, 0, none⟩)]) A c l (hitL id) _ (Kd.C_below hr HB2.out) hc (resolve1_tells w.heap.size id _ (blk_cell HP2.out 0)))
 generalize idxOf (hitL id) l = q at *
 have hnk : decide (q < 0) = true := decide_eq_true hi
 have hu1 := Tryz.underlying44
 clear hr hc hi
 go_enter Tryz.func23, Tryz.ntmps23
 go_wp2_with fail
 generalize (w.alloc (.cells #[.string id] 9)).alloc (.cells #[.string ⟨#[]⟩, .int .i64 0, .int .i64 0, .slice none 0 0, .slice none 0 0, .slice none 0 0] 44) = W2 at *
 refine HIX.out.mono ?_
 rintro e W3 ⟨rfl, hB⟩
 have HS3 := Aside0.mk (blk_below HS2.out hB)
 have HB3 : Aside0 (Below w.heap.size w W3) := ⟨below_step HB2.out hB⟩
 clear hB HIX
 have hb0 := blk_cell HS3.out 0
 have hf0 := blk_frozen HS3.out 0
 have hb1 := blk_cell HS3.out 1
 have hf1 := blk_frozen HS3.out 1
 have hb2 := blk_cell HS3.out 2
 have hf2 := blk_frozen HS3.out 2
 have hb3 := blk_cell HS3.out 3
 have hf3 := blk_frozen HS3.out 3
 have hb4 := blk_cell HS3.out 4
 have hf4 := blk_frozen HS3.out 4
 have hb5 := blk_cell HS3.out 5
 have hf5 := blk_frozen HS3.out 5
 go_wp2
 have hb7 : ((((((W3.setCell ⟨w.heap.size + 1, 0, none⟩ (.string ⟨#[]⟩)).setCell ⟨w.heap.size + 1, 1, none⟩ (.int .i64 0)).setCell ⟨w.heap.size + 1, 2, none⟩ (.int .i64 0)).setCell ⟨w.heap.size + 1, 3, none⟩ (.slice none 0 0)).setCell ⟨w.heap.size + 1, 4, none⟩ (.slice none 0 0)).setCell ⟨w.heap.size + 1, 5, none⟩ (.slice none 0 0)).heap[w.heap.size + 1]? = some (.cells #[.string ⟨#[]⟩, .int .i64 0, .int .i64 0, .slice none 0 0, .slice none 0 0, .slice none 0 0] 44 (0, 0)) := by simpa using (blk_set (blk_set (blk_set (blk_set (blk_set (blk_set HS3.out 0 (.string ⟨#[]⟩)) 1 (.int .i64 0)) 2 (.int .i64 0)) 3 (.slice none 0 0)) 4 (.slice none 0 0)) 5 (.slice none 0 0))
 refine bodyPost_ret (results_ct rfl _ _ (w.heap.size + 1) 44 #[.string ⟨#[]⟩, .int .i64 0, .int .i64 0, .slice none 0 0, .slice none 0 0, .slice none 0 0] (0, 0) _ rfl hb7 Tryz.underlying44 rfl (by kernel_rfl)) rfl ?_
 exact ⟨rfl, (Below.setCell (p := ⟨w.heap.size + 1, 5, none⟩) (Below.setCell (p := ⟨w.heap.size + 1, 4, none⟩) (Below.setCell (p := ⟨w.heap.size + 1, 3, none⟩) (Below.setCell (p := ⟨w.heap.size + 1, 2, none⟩) (Below.setCell (p := ⟨w.heap.size + 1, 1, none⟩) (Below.setCell (p := ⟨w.heap.size + 1, 0, none⟩) HB3.out (Nat.le_succ _) (.string ⟨#[]⟩)) (Nat.le_succ _) (.int .i64 0)) (Nat.le_succ _) (.int .i64 0)) (Nat.le_succ _) (.slice none 0 0)) (Nat.le_succ _) (.slice none 0 0)) (Nat.le_succ _) (.slice none 0 0))⟩
theorem idxOf_lt {α : Type} (p : α → Bool) (l : List α) (k : Nat) (h : idxOf p l = (k : Int)) : k < l.length ∧ True := by
 unfold idxOf at h
 cases hf : l.findIdx? p with
 | none => rw [hf] at h; exact absurd h (by simp)
 | some i =>
  rw [hf] at h
  have hi : i = k := by exact Int.ofNat.inj h
  subst hi
  rw [List.findIdx?_eq_some_iff_getElem] at hf
  exact ⟨hf.1, trivial⟩
theorem idxOf_nat {α : Type} (p : α → Bool) (l : List α) (h : ¬ idxOf p l < 0) : ∃ k : Nat, idxOf p l = (k : Int) ∧ k < l.length := by
 refine ⟨(idxOf p l).toNat, ?_⟩
 have : idxOf p l = ((idxOf p l).toNat : Int) := by omega
 exact ⟨this, (idxOf_lt p l _ this).1⟩
def okRes (l : List S44) : Prop := plainL l ∧ l.length ≤ 100000 ∧ ∀ x ∈ l, x.f3.length ≤ 5
def resP (l : List S44) (id : ByteArray) : ByteArray × Int × Int × List S46 × List S56 × List S52 × Bool :=
 if idxOf (hitL id) l < 0 then (⟨#[]⟩, 0, 0, [], [], [], false) else (id, (rd_T44 l (idxOf (hitL id) l)).f1, (rd_T44 l (idxOf (hitL id) l)).f2, lexP l (idxOf (hitL id) l).toNat, [], [], true)
def okResB (l : List S44) : Bool := (l.all fun x => x.f4.isEmpty && x.f5.isEmpty && decide (x.f3.length ≤ 5)) && decide (l.length ≤ 100000)
theorem okRes_of {l : List S44} (h : okResB l = true) : okRes l := by
 unfold okResB at h
 simp only [Bool.and_eq_true, decide_eq_true_eq] at h
 refine ⟨fun x hx => ?_, h.2, fun x hx => ?_⟩
 ·have := List.all_eq_true.1 h.1 x hx
  simp only [Bool.and_eq_true, List.isEmpty_iff] at this
  exact this.1
 ·have := List.all_eq_true.1 h.1 x hx
  simp only [Bool.and_eq_true, decide_eq_true_eq] at this
  exact this.2
noncomputable def blob_Resolve.f (l : List S44) (id : ByteArray) : Option (ByteArray × Int × Int × List S46 × List S56 × List S52 × Bool) := if okResB l = true then some (resP l id) else none
theorem blob_Resolve.calls (A0 : Option Addr) (c0 : Nat) (l0 : List S44) (id : ByteArray) (r0 : ByteArray) (r1 r2 : Int) (r3 : List S46) (r4 : List S56) (r5 : List S52) (r6 : Bool) (w : World) (hr0 : Kd.C k44 w A0 l0.length l0) (hc0 : l0.length ≤ c0) (h : blob_Resolve.f l0 id = some (r0, r1, r2, r3, r4, r5, r6)) :
  Calls Tryz.prog 23 #[.slice A0 l0.length c0, .string id] w fun e w' => ∃ v3 v4 v5, e = .returned (.tuple #[.agg #[.string r0, .int .i64 r1, .int .i64 r2, v3, v4, v5], .bool r6]) ∧ Kd.R k46 46 w' w.heap.size (fun _ => True) v3 r3 ∧ Kd.S k56 56 w' w.heap.size (fun _ => True) v4 r4 ∧ Kd.S k52 52 w' w.heap.size (fun _ => True) v5 r5 ∧ Below w.heap.size w w' := by
 unfold blob_Resolve.f at h
 by_cases hob : okResB l0 = true
 ·rw [if_pos hob] at h
  have ho := okRes_of hob
  have h := Option.some.inj h
  unfold resP at h
  by_cases hi : idxOf (hitL id) l0 < 0
  ·rw [if_pos hi] at h
   simp only [Prod.mk.injEq] at h
   obtain ⟨rfl, rfl, rfl, rfl, rfl, rfl, rfl⟩ := h
   refine (resolve5_miss A0 c0 l0 id w hr0 hc0 hi).mono ?_
   rintro e w' ⟨rfl, hb⟩
   exact ⟨_, _, _, rfl, Kd.R_nil _ _ _ _ _, Kd.S_nil _ _ _ _ _, Kd.S_nil _ _ _ _ _, hb⟩
  ·rw [if_neg hi] at h
   obtain ⟨k, hk, hlt⟩ := idxOf_nat _ _ hi
   rw [hk] at h
   simp only [Prod.mk.injEq, Int.toNat_natCast] at h
   obtain ⟨rfl, rfl, rfl, rfl, rfl, rfl, rfl⟩ := h
   exact resolve5_hit A0 c0 l0 id k w hr0 hc0 ho.1 ho.2.1 ho.2.2 hk hlt
 ·rw [if_neg hob] at h
  cases h
end Go.Proofs.YtiocgaekoeekgaaGreat.P
end
section
namespace Go.Proofs.YtiocgaekoeekgaaGreat.P
open Go.RowKit Go.Proofs.YtiocgaekoeekgaaGreatW.PrintWords Go.Proofs.YtiocgaekoeekgaaGreatW.PrintLast Go.Proofs.YtiocgaekoeekgaaGreatW.PrintMore
attribute [local go_sem] max2_int min2_int max_two min_two max_three min_three max_four min_four   
set_option linter.unusedVariables false
set_option linter.unusedSimpArgs false
end Go.Proofs.YtiocgaekoeekgaaGreat.P
end
section
namespace Go.Proofs.YtiocgaekoeekgaaGreat.P
open Go.RowKit Go.Proofs.YtiocgaekoeekgaaGreatW.PrintWords Go.Proofs.YtiocgaekoeekgaaGreatW.PrintLast Go.Proofs.YtiocgaekoeekgaaGreatW.PrintMore
attribute [local go_sem] max2_int min2_int max_two min_two max_three min_three max_four min_four   
set_option linter.unusedVariables false
set_option linter.unusedSimpArgs false
attribute [local go_sem] Oper.semAt_some
noncomputable def en5 : List S44 := [⟨⟨#[101, 110]⟩, -1, 0, [⟨⟨#[109, 97, 121]⟩, 1, 5⟩], [], []⟩]
theorem en5_len : (enc8 en5).length = 85 := by decide +kernel
theorem en5_plain : plainL en5 := plainB_of (by decide +kernel)
theorem en5_right : rightP5 en5 = true := by
 rw [← rightPl_eq en5_plain]
 decide +kernel
theorem en5_many : pMany (pLoc (enc8 en5)) (enc8 en5) 0 = some (en5, 85) := by kernel_rfl
theorem nil5_many : pMany (pLoc []) [] 0 = none := by kernel_rfl
theorem en5_dec : decP (enc8 en5) = some en5 := by
 unfold decP
 rw [en5_many]
 show (if 85 < (enc8 en5).length then none else if rightP5 en5 = true then some en5 else none) = some en5
 rw [en5_len, en5_right]
 rfl
theorem nil5_dec : decP [] = none := by
 unfold decP
 rw [nil5_many]
theorem en5_hit : resP en5 ⟨#[101, 110]⟩ = (⟨#[101, 110]⟩, -1, 0, [⟨⟨#[109, 97, 121]⟩, 1, 5⟩], [], [], true) := by kernel_rfl
theorem en5_miss : resP en5 ⟨#[100, 101]⟩ = (⟨#[]⟩, 0, 0, [], [], [], false) := by kernel_rfl
theorem en5_ok : okLocs en5 := okLocs_of (by decide +kernel)
theorem en5_same : same5P en5 en5 = true := by unfold same5P; rw [beq_self_eq_true]
theorem C_one {α : Type} (d : Kd α) {W : World} {g t : Nat} {cs : List Value} {x : α} (hb : W.heap[g]? = some (.cells cs.toArray t (0, 0))) (hK : d.K W x cs) (hsz : cs.length = d.sz) : d.C W (some ⟨g, 0, none⟩) 1 [x] :=
 ⟨rfl, by omega, fun _ => ⟨_, rfl, fun j p hj => by
  have hj0 : j = 0 := by
   cases j with
   | zero => rfl
   | succ j => simp at hj
  subst hj0
  have hp : x = p := by simpa using hj
  subst hp
  refine ⟨cs, hsz, hK, fun i u hi => ?_⟩
  have h1 := blk_cell hb i
  rw [Nat.zero_mul, Nat.zero_add, add_plain]
  rw [h1]
  simpa using hi⟩⟩
noncomputable def l5_known.f : Option Bool := some true
set_option maxHeartbeats 16000000 in
set_option maxRecDepth 100000 in
theorem known5_walk (w : World) : Calls Tryz.prog 11 #[] w fun e w' => e = .returned (.bool true) ∧ Below w.heap.size w w' := by
 have HD0 := Aside0.mk (decode5_walk none 0 [] w ⟨rfl, by simp, fun h => absurd h (by simp)⟩ (Nat.le_refl _) (by simp) (fun l q h => by rw [nil5_many] at h; cases h))
 rw [nil5_dec] at HD0
 go_enter Tryz.func11, Tryz.ntmps11
 go_wp2_with fail
 refine HD0.out.mono ?_
 rintro e w1 ⟨v0, rfl, hv0, hB1⟩
 have hv1 : v0 = .slice none 0 0 := hv0
 subst hv1
 have HB1 := Aside0.mk hB1
 clear hB1 hv0 HD0
 go_wp2_with fail
 have HX : Aside0 ((w1.alloc (.cells #[.string ⟨#[109, 97, 121]⟩, .int .i64 1, .int .i64 5] 46)).heap[w1.heap.size]? = some (.cells #[.string ⟨#[109, 97, 121]⟩, .int .i64 1, .int .i64 5] 46 (0, 0))) := ⟨blk_new w1 _⟩
 have HCX : Aside0 (Kd.C k46 (w1.alloc (.cells #[.string ⟨#[109, 97, 121]⟩, .int .i64 1, .int .i64 5] 46)) (some ⟨w1.heap.size, 0, none⟩) 1 [⟨⟨#[109, 97, 121]⟩, 1, 5⟩]) := ⟨C_one k46 (cs := [.string ⟨#[109, 97, 121]⟩, .int .i64 1, .int .i64 5]) HX.out (k46_mk _ _) rfl⟩
 have HB3 : Aside0 (Below w.heap.size w ((w1.alloc (.cells #[.string ⟨#[109, 97, 121]⟩, .int .i64 1, .int .i64 5] 46)).alloc (.cells #[.string ⟨#[101, 110]⟩, .int .i64 (-1), .int .i64 0, .slice (some ⟨w1.heap.size, 0, none⟩) 1 1, .slice none 0 0, .slice none 0 0] 44))) := ⟨below_step HB1.out (below_alloc (below_alloc (Below.refl _ _) _) _)⟩
 have HC3 : Aside0 (Kd.C k44 ((w1.alloc (.cells #[.string ⟨#[109, 97, 121]⟩, .int .i64 1, .int .i64 5] 46)).alloc (.cells #[.string ⟨#[101, 110]⟩, .int .i64 (-1), .int .i64 0, .slice (some ⟨w1.heap.size, 0, none⟩) 1 1, .slice none 0 0, .slice none 0 0] 44)) (some ⟨w1.heap.size + 1, 0, none⟩) en5.length en5) := ⟨by
  have hn := blk_new (w1.alloc (.cells #[.string ⟨#[109, 97, 121]⟩, .int .i64 1, .int .i64 5] 46)) (.cells #[.string ⟨#[101, 110]⟩, .int .i64 (-1), .int .i64 0, .slice (some ⟨w1.heap.size, 0, none⟩) 1 1, .slice none 0 0, .slice none 0 0] 44)
  rw [show (w1.alloc (.cells #[.string ⟨#[109, 97, 121]⟩, .int .i64 1, .int .i64 5] 46)).heap.size = w1.heap.size + 1 by simp] at hn
  exact C_one k44 (cs := [.string ⟨#[101, 110]⟩, .int .i64 (-1), .int .i64 0, .slice (some ⟨w1.heap.size, 0, none⟩) 1 1, .slice none 0 0, .slice none 0 0]) hn (k44_mk _ (⟨⟨#[101, 110]⟩, -1, 0, [⟨⟨#[109, 97, 121]⟩, 1, 5⟩], [], []⟩ : S44) (Nat.le_refl _) (Kd.C_alloc HCX.out _) (Nat.le_refl _) (Kd.C_nil _ _) (Nat.le_refl _) (Kd.C_nil _ _)) rfl⟩
 have HENC : Aside0 (Calls Tryz.prog 14 #[.slice (some ⟨w1.heap.size + 1, 0, none⟩) 1 1] ((w1.alloc (.cells #[.string ⟨#[109, 97, 121]⟩, .int .i64 1, .int .i64 5] 46)).alloc (.cells #[.string ⟨#[101, 110]⟩, .int .i64 (-1), .int .i64 0, .slice (some ⟨w1.heap.size, 0, none⟩) 1 1, .slice none 0 0, .slice none 0 0] 44)) fun e w' => ∃ v : Value, e = .returned v ∧ Kd.R (Kd.int .u8) 5 w' ((w1.alloc (.cells #[.string ⟨#[109, 97, 121]⟩, .int .i64 1, .int .i64 5] 46)).alloc (.cells #[.string ⟨#[101, 110]⟩, .int .i64 (-1), .int .i64 0, .slice (some ⟨w1.heap.size, 0, none⟩) 1 1, .slice none 0 0, .slice none 0 0] 44)).heap.size (fun _ => True) v (enc8 en5) ∧ Below ((w1.alloc (.cells #[.string ⟨#[109, 97, 121]⟩, .int .i64 1, .int .i64 5] 46)).alloc (.cells #[.string ⟨#[101, 110]⟩, .int .i64 (-1), .int .i64 0, .slice (some ⟨w1.heap.size, 0, none⟩) 1 1, .slice none 0 0, .slice none 0 0] 44)).heap.size ((w1.alloc (.cells #[.string ⟨#[109, 97, 121]⟩, .int .i64 1, .int .i64 5] 46)).alloc (.cells #[.string ⟨#[101, 110]⟩, .int .i64 (-1), .int .i64 0, .slice (some ⟨w1.heap.size, 0, none⟩) 1 1, .slice none 0 0, .slice none 0 0] 44)) w') := ⟨encode5_walk _ 1 en5 _ HC3.out (Nat.le_refl _) (by rw [en5_len]; omega)⟩
 have HDEC : Aside0 (∀ (S : Option Addr) (k : Nat) (W : World), Kd.C (Kd.int .u8) W S (enc8 en5).length (enc8 en5) → (enc8 en5).length ≤ k → Calls Tryz.prog 15 #[.slice S (enc8 en5).length k] W fun e w' => ∃ v : Value, e = .returned (.tuple #[v, .bool true]) ∧ Kd.R k44 44 w' W.heap.size (fun k => W.heap.size ≤ k) v en5 ∧ Below W.heap.size W w') := ⟨fun S k W h1 h2 => by
  have h := decode5_walk S k (enc8 en5) W h1 h2 (by rw [en5_len]; omega) (fun l q hp => by rw [en5_many] at hp; cases hp; exact en5_ok)
  rw [en5_dec] at h
  exact h⟩
 have HRES : Aside0 (∀ (W : World), Below ((w1.alloc (.cells #[.string ⟨#[109, 97, 121]⟩, .int .i64 1, .int .i64 5] 46)).alloc (.cells #[.string ⟨#[101, 110]⟩, .int .i64 (-1), .int .i64 0, .slice (some ⟨w1.heap.size, 0, none⟩) 1 1, .slice none 0 0, .slice none 0 0] 44)).heap.size ((w1.alloc (.cells #[.string ⟨#[109, 97, 121]⟩, .int .i64 1, .int .i64 5] 46)).alloc (.cells #[.string ⟨#[101, 110]⟩, .int .i64 (-1), .int .i64 0, .slice (some ⟨w1.heap.size, 0, none⟩) 1 1, .slice none 0 0, .slice none 0 0] 44)) W → Calls Tryz.prog 23 #[.slice (some ⟨w1.heap.size + 1, 0, none⟩) 1 1, .string ⟨#[101, 110]⟩] W fun e w' => ∃ v3 v4 v5, e = .returned (.tuple #[.agg #[.string ⟨#[101, 110]⟩, .int .i64 (-1), .int .i64 0, v3, v4, v5], .bool true]) ∧ Kd.R k46 46 w' W.heap.size (fun _ => True) v3 [⟨⟨#[109, 97, 121]⟩, 1, 5⟩] ∧ Kd.S k56 56 w' W.heap.size (fun _ => True) v4 [] ∧ Kd.S k52 52 w' W.heap.size (fun _ => True) v5 [] ∧ Below W.heap.size W w') := ⟨fun W hB => blob_Resolve.calls _ 1 en5 _ _ _ _ _ _ _ _ W (Kd.C_below HC3.out hB) (Nat.le_refl _) (by unfold blob_Resolve.f; rw [if_pos (by decide +kernel), en5_hit])⟩
 have HMIS : Aside0 (∀ (W : World), Below ((w1.alloc (.cells #[.string ⟨#[109, 97, 121]⟩, .int .i64 1, .int .i64 5] 46)).alloc (.cells #[.string ⟨#[101, 110]⟩, .int .i64 (-1), .int .i64 0, .slice (some ⟨w1.heap.size, 0, none⟩) 1 1, .slice none 0 0, .slice none 0 0] 44)).heap.size ((w1.alloc (.cells #[.string ⟨#[109, 97, 121]⟩, .int .i64 1, .int .i64 5] 46)).alloc (.cells #[.string ⟨#[101, 110]⟩, .int .i64 (-1), .int .i64 0, .slice (some ⟨w1.heap.size, 0, none⟩) 1 1, .slice none 0 0, .slice none 0 0] 44)) W → Calls Tryz.prog 23 #[.slice (some ⟨w1.heap.size + 1, 0, none⟩) 1 1, .string ⟨#[100, 101]⟩] W fun e w' => ∃ v3 v4 v5, e = .returned (.tuple #[.agg #[.string ⟨#[]⟩, .int .i64 0, .int .i64 0, v3, v4, v5], .bool false]) ∧ Kd.R k46 46 w' W.heap.size (fun _ => True) v3 [] ∧ Kd.S k56 56 w' W.heap.size (fun _ => True) v4 [] ∧ Kd.S k52 52 w' W.heap.size (fun _ => True) v5 [] ∧ Below W.heap.size W w') := ⟨fun W hB => blob_Resolve.calls _ 1 en5 _ _ _ _ _ _ _ _ W (Kd.C_below HC3.out hB) (Nat.le_refl _) (by unfold blob_Resolve.f; rw [if_pos (by decide +kernel), en5_miss])⟩
 have HRT : Aside0 (∀ (W : World), Below ((w1.alloc (.cells #[.string ⟨#[109, 97, 121]⟩, .int .i64 1, .int .i64 5] 46)).alloc (.cells #[.string ⟨#[101, 110]⟩, .int .i64 (-1), .int .i64 0, .slice (some ⟨w1.heap.size, 0, none⟩) 1 1, .slice none 0 0, .slice none 0 0] 44)).heap.size ((w1.alloc (.cells #[.string ⟨#[109, 97, 121]⟩, .int .i64 1, .int .i64 5] 46)).alloc (.cells #[.string ⟨#[101, 110]⟩, .int .i64 (-1), .int .i64 0, .slice (some ⟨w1.heap.size, 0, none⟩) 1 1, .slice none 0 0, .slice none 0 0] 44)) W → Calls Tryz.prog 16 #[.slice (some ⟨w1.heap.size + 1, 0, none⟩) 1 1] W fun e w' => e = .returned (.bool true) ∧ Below W.heap.size W w') := ⟨fun W hB => by
  have h := right5_walk (some ⟨w1.heap.size + 1, 0, none⟩) 1 en5 W (Kd.C_below HC3.out hB) (Nat.le_refl _) en5_ok
  rw [en5_right] at h
  exact h⟩
 have HSM : Aside0 (∀ (S : Option Addr) (k : Nat) (W : World), Below ((w1.alloc (.cells #[.string ⟨#[109, 97, 121]⟩, .int .i64 1, .int .i64 5] 46)).alloc (.cells #[.string ⟨#[101, 110]⟩, .int .i64 (-1), .int .i64 0, .slice (some ⟨w1.heap.size, 0, none⟩) 1 1, .slice none 0 0, .slice none 0 0] 44)).heap.size ((w1.alloc (.cells #[.string ⟨#[109, 97, 121]⟩, .int .i64 1, .int .i64 5] 46)).alloc (.cells #[.string ⟨#[101, 110]⟩, .int .i64 (-1), .int .i64 0, .slice (some ⟨w1.heap.size, 0, none⟩) 1 1, .slice none 0 0, .slice none 0 0] 44)) W → Kd.C k44 W S en5.length en5 → en5.length ≤ k → Calls Tryz.prog 18 #[.slice (some ⟨w1.heap.size + 1, 0, none⟩) 1 1, .slice S 1 k] W fun e w' => e = .returned (.bool true) ∧ Below W.heap.size W w') := ⟨fun S k W hB h1 h2 => by
  have h := same5_w (some ⟨w1.heap.size + 1, 0, none⟩) S 1 k en5 en5 W (Kd.C_below HC3.out hB) (Nat.le_refl _) en5_plain (by rw [en5_len]; omega) h1 h2 en5_plain (by rw [en5_len]; omega)
  rw [en5_same] at h
  exact h⟩
 have HEL : Aside0 ((enc8 en5).length = 85) := ⟨en5_len⟩
 generalize enc8 en5 = eb at *
 generalize (w1.alloc (.cells #[.string ⟨#[109, 97, 121]⟩, .int .i64 1, .int .i64 5] 46)).alloc (.cells #[.string ⟨#[101, 110]⟩, .int .i64 (-1), .int .i64 0, .slice (some ⟨w1.heap.size, 0, none⟩) 1 1, .slice none 0 0, .slice none 0 0] 44) = W3 at *
 generalize w1.heap.size + 1 = g at *
 clear HX HCX
 refine HENC.out.mono ?_
 rintro e w4 ⟨v4, rfl, hr4, hb4⟩
 obtain ⟨S4, k4, hs4⟩ := Kd.R_slice hr4
 subst hs4
 have HD := Aside0.mk (HDEC.out S4 k4 w4 (Kd.R_reads' hr4).2.2 (Kd.R_reads' hr4).2.1)
 have HW4 := Aside0.mk hb4
 clear hr4 hb4 HENC HDEC
 go_wp2_with fail
 refine HD.out.mono ?_
 rintro e w5 ⟨v5, rfl, hr5, hb5⟩
 obtain ⟨S5, k5, hs5⟩ := Kd.R_slice hr5
 have hs5' : v5 = .slice S5 1 k5 := hs5
 subst hs5'
 have HR5 := Aside0.mk hr5
 have HW5 : Aside0 (Below W3.heap.size W3 w5) := ⟨below_step HW4.out hb5⟩
 clear hr5 hb5 HD hs5
 go_wp2_with fail
 refine (HRES.out _ HW5.out).mono ?_
 rintro e w6 ⟨v3, v4, v5, rfl, h3, h4, h5, hb6⟩
 obtain ⟨A3, c3, hs3⟩ := Kd.R_slice h3
 have hs3' : v3 = .slice A3 1 c3 := hs3
 obtain ⟨A4, c4, hs4⟩ := Kd.R_slice (Kd.S_R h4)
 have hs4' : v4 = .slice A4 0 c4 := hs4
 obtain ⟨A5, c5, hs5⟩ := Kd.R_slice (Kd.S_R h5)
 have hs5' : v5 = .slice A5 0 c5 := hs5
 subst hs3' hs4' hs5'
 have HW6 : Aside0 (Below W3.heap.size W3 w6) := ⟨below_step HW5.out hb6⟩
 have HR6 := Aside0.mk (Kd.R_below HR5.out hb6)
 clear h3 h4 h5 hb6 hs3 hs4 hs5 HRES HR5 HW5
 go_wp2_with fail
 have HBK : Aside0 ((w6.alloc (.cells #[.string ⟨#[101, 110]⟩, .int .i64 (-1), .int .i64 0, .slice A3 1 c3, .slice A4 0 c4, .slice A5 0 c5] 44)).heap[w6.heap.size]? = some (.cells #[.string ⟨#[101, 110]⟩, .int .i64 (-1), .int .i64 0, .slice A3 1 c3, .slice A4 0 c4, .slice A5 0 c5] 44 (0, 0))) := ⟨blk_new w6 _⟩
 have HW7 : Aside0 (Below W3.heap.size W3 (w6.alloc (.cells #[.string ⟨#[101, 110]⟩, .int .i64 (-1), .int .i64 0, .slice A3 1 c3, .slice A4 0 c4, .slice A5 0 c5] 44))) := ⟨below_step HW6.out (below_alloc (Below.refl _ _) _)⟩
 have HR7 := Aside0.mk (Kd.R_alloc HR6.out (.cells #[.string ⟨#[101, 110]⟩, .int .i64 (-1), .int .i64 0, .slice A3 1 c3, .slice A4 0 c4, .slice A5 0 c5] 44))
 generalize w6.alloc (.cells #[.string ⟨#[101, 110]⟩, .int .i64 (-1), .int .i64 0, .slice A3 1 c3, .slice A4 0 c4, .slice A5 0 c5] 44) = w7 at *
 generalize w6.heap.size = g6 at *
 clear HR6 HW6
 refine (HMIS.out _ HW7.out).mono ?_
 rintro e w8 ⟨v3, v4, v5, rfl, h3, h4, h5, hb8⟩
 obtain ⟨B3, d3, hs3⟩ := Kd.R_slice h3
 have hs3' : v3 = .slice B3 0 d3 := hs3
 obtain ⟨B4, d4, hs4⟩ := Kd.R_slice (Kd.S_R h4)
 have hs4' : v4 = .slice B4 0 d4 := hs4
 obtain ⟨B5, d5, hs5⟩ := Kd.R_slice (Kd.S_R h5)
 have hs5' : v5 = .slice B5 0 d5 := hs5
 subst hs3' hs4' hs5'
 have HW8 : Aside0 (Below W3.heap.size W3 w8) := ⟨below_step HW7.out hb8⟩
 have HR8 := Aside0.mk (Kd.R_below HR7.out hb8)
 have HBK8 := Aside0.mk (blk_below HBK.out hb8)
 clear h3 h4 h5 hb8 hs3 hs4 hs5 HMIS HR7 HW7 HBK
 have HRC : Aside0 (∀ o : Obj, Below W3.heap.size W3 (w8.alloc o) ∧ Kd.R k44 44 (w8.alloc o) w4.heap.size (fun k => w4.heap.size ≤ k) (.slice S5 1 k5) en5 ∧ (w8.alloc o).heap[g6]? = some (.cells #[.string ⟨#[101, 110]⟩, .int .i64 (-1), .int .i64 0, .slice A3 1 c3, .slice A4 0 c4, .slice A5 0 c5] 44 (0, 0))) := ⟨fun o => ⟨below_step HW8.out (below_alloc (Below.refl _ _) _), Kd.R_alloc HR8.out o, blk_below HBK8.out (below_alloc (Below.refl _ _) _)⟩⟩
 clear HW8 HR8 HBK8
 go_wp2_with fail
 generalize hoo : Obj.cells _ 44 _ = oo
 obtain ⟨hw9, hr9, hg9⟩ := HRC.out oo
 generalize w8.alloc oo = w9 at *
 refine (HRT.out _ hw9).mono ?_
 rintro e w10 ⟨rfl, hb10⟩
 have HW10 : Aside0 (Below W3.heap.size W3 w10) := ⟨below_step hw9 hb10⟩
 have hr10 := Kd.R_below hr9 hb10
 have HG10 := Aside0.mk (blk_below hg9 hb10)
 have HS10 := Aside0.mk (HSM.out S5 k5 w10 HW10.out (Kd.R_reads' hr10).2.2 (Kd.R_reads' hr10).2.1)
 clear hw9 hr9 hg9 hb10 hr10 HRC HRT HSM hoo
 go_wp2_with fail
 refine HS10.out.mono ?_
 rintro e w11 ⟨rfl, hb11⟩
 have hc3 : w11.cell? ⟨g6, 3, none⟩ = some (.slice A3 1 c3) := blk_cell (blk_below HG10.out hb11) 3
 have HF : Aside0 (Below w.heap.size w w11) := ⟨below_step HB3.out (below_step HW10.out hb11)⟩
 clear hb11 HS10
 go_wp2
 go_ret
 exact ⟨rfl, HF.out⟩
theorem l5_known.calls (r : Bool) (w : World) (h : l5_known.f = some r) : Calls Tryz.prog 11 #[] w fun e w' => e = .returned (.bool r) ∧ Below w.heap.size w w' := by
 obtain rfl := Option.some.inj h
 exact known5_walk w
end Go.Proofs.YtiocgaekoeekgaaGreat.P
end
