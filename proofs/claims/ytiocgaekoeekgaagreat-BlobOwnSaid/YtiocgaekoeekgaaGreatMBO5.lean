/- What was resolved is its own: written to, it does not change the locales: BlobOwn answers true for all that it is given, with no condition. Part 5: contracts of the functions that the law reaches, and words for them. -/
import Derived.Defers
import Derived.Recover
import Derived.Deep.DeepCutAuto
import Derived.Test.YtiocgaekoeekgaaGreatMBO4
set_option maxHeartbeats 32000000
set_option maxRecDepth 100000
section
namespace Go.Proofs.YtiocgaekoeekgaaGreat.P
open Go.RowKit YtiocgaekoeekgaaGreatW.PrintWords YtiocgaekoeekgaaGreatW.PrintLast YtiocgaekoeekgaaGreatW.PrintMore
attribute [local go_sem] vb_ tb_ jc_ ic_ lb_ kb_ ub_ sb_   
set_option linter.unusedVariables false
set_option linter.unusedSimpArgs false
attribute [local go_sem] Oper.semAt_some
theorem mm_ (A : Option Addr) (c : Nat) (l : List S44) (w : World) (hr : Kd.C k44 w A l.length l) (hc : l.length ≤ c) (hl : (enc8 l).length ≤ 1000000000000) :
  Calls Tryz.prog 17 #[.slice A l.length c] w fun e w' => ∃ v, e = .returned v ∧ Kd.R (Kd.int .u8) 5 w' w.heap.size (fun _ => True) v (enc8 l) ∧ Below w.heap.size w w' := by
 have hE8 : enc8 l = num8 l.length ++ (l.take l.length).flatMap loc8 := by rw [List.take_length]; unfold enc8 pb_ fb_; simp
 have hEL : 8 + (l.flatMap loc8).length ≤ 1000000000000 := by rw [hE8, List.take_length, List.length_append, rb_] at hl; exact hl
 have HE8 := aM_ hE8
 have HEL := aM_ hEL
 have HC := aM_ hr
 have hbn : l.length ≤ 9223372036854775807 := hr.2.1
 generalize enc8 l = Z at *
 have HN := aM_ (ke_ w (.slice none 0 0) [] l.length w ⟨Kd.R_nil _ _ _ _ _, Below.refl _ _⟩ (by simp))
 clear hE8 hEL hr hl
 go_enter Tryz.func17, Tryz.ntmps17
 go_wp2_with fail
 refine HN.out.mono ?_
 rintro e w1 ⟨v1, rfl, hr, hk⟩
 have HR1 : Az (Row5 w v1 (num8 l.length ++ (l.take 0).flatMap loc8) w1) := ⟨by rw [List.take_zero]; show Row5 w v1 (num8 l.length ++ []) w1; rw [List.append_nil]; exact hr⟩
 clear hr hk HN
 go_wp2_with fail
 go_loopg [4, 3] l.length (fun gg s4 s3 wr => ∃ i : Nat, i ≤ l.length ∧ l.length - i ≤ gg ∧ s4 = .int .i64 i ∧ Az (Row5 w s3 (num8 l.length ++ (l.take i).flatMap loc8) wr))
 case atStart => exact ⟨0, by omega, by omega, rfl, HR1⟩
 clear HR1
 obtain ⟨i, hi, hgg, rfl, HR⟩ := hrel
 by_cases hil : i < l.length
 ·have hilz : (i : Int) < (l.length : Int) := by omega
  obtain ⟨ad, A3, c3, A4, c4, A5, c5, hA, h0, h1, h2, h3, h4, h5, l3, g3, l4, g4, l5, g5⟩ := lg_ HC.out (i : Int) (by omega) hilz; subst hA; rw [Int.toNat_natCast] at h0 h1 h2 h3 h4 h5
  have hy : ya_ l (i : Int) = l[i] := by
   show l.getD (i : Int).toNat _ = _; rw [Int.toNat_natCast, List.getD_eq_getElem?_getD, List.getElem?_eq_getElem hil]; rfl
  have hsn := md_ loc8 l i hil; have hle := ze_ loc8 l i hil; rw [← hy] at hsn hle; generalize ya_ l (i : Int) = y at *; have hr := HR.out.2; replace h0 := ha_ hr h0; replace h1 := ha_ hr h1; replace h2 := ha_ hr h2; replace h3 := ha_ hr h3; replace h4 := ha_ hr h4; replace h5 := ha_ hr h5; have HSN : Az (num8 l.length ++ (l.take (i + 1)).flatMap loc8 = num8 l.length ++ (l.take i).flatMap loc8 ++ loc8 y) := ⟨by rw [hsn, List.append_assoc]⟩; have HLC := aM_ (cs_ w u3 (num8 l.length ++ (l.take i).flatMap loc8) y A3 A4 A5 c3 c4 c5 wr HR.out g3 l3 g4 l4 g5 l5 (by rw [List.length_append, rb_]; have := HEL.out; omega)); clear hy hsn hle hr l3 g3 l4 g4 l5 g5
  go_wp2_with fail
  refine HLC.out.mono ?_; rintro e w2 ⟨v2, rfl, hr, hk⟩; have HR2 : Az (Row5 w v2 (num8 l.length ++ (l.take (i + 1)).flatMap loc8) w2) := ⟨by rw [HSN.out]; exact hr⟩; clear hr hk HLC HR h0 h1 h2 h3 h4 h5
  go_wp2
  go_roundg (l.length - (i + 1))
  case measure => omega
  case rel => exact ⟨i + 1, by omega, by omega, by go_num, HR2⟩
 have he : i = l.length := by omega
 have hilz : decide ((i : Int) < (l.length : Int)) = false := by simp; omega
 have hilz' : decide (i < l.length) = false := by simp; omega
 have HR2 : Az (Row5 w u3 Z wr) := ⟨by rw [HE8.out]; rw [he] at HR; exact HR.out⟩
 clear he HR
 go_wp2
 go_ret
 exact ⟨_, rfl, HR2.out.1, HR2.out.2⟩
def vi_ (a b : List S44) : Bool := (strOfNums (enc8 a)).toList == (strOfNums (enc8 b)).toList
theorem gt_ (A B : Option Addr) (ca cb : Nat) (la lb : List S44) (w : World) (hr1 : Kd.C k44 w A la.length la) (hc1 : la.length ≤ ca) (hl1 : (enc8 la).length ≤ 1000000000000) (hr2 : Kd.C k44 w B lb.length lb) (hc2 : lb.length ≤ cb) (hl2 : (enc8 lb).length ≤ 1000000000000) :
  Calls Tryz.prog 18 #[.slice A la.length ca, .slice B lb.length cb] w fun e w' => e = .returned (.bool (vi_ la lb)) ∧ Below w.heap.size w w' := by
 have HE1 : Az (∀ W, Below w.heap.size w W → Calls Tryz.prog 17 #[.slice A la.length ca] W fun e w' => ∃ v, e = .returned v ∧ Kd.R (Kd.int .u8) 5 w' W.heap.size (fun _ => True) v (enc8 la) ∧ Below W.heap.size W w') := ⟨fun W hB => mm_ A ca la W (Kd.C_below hr1 hB) hc1 hl1⟩
 have HE2 : Az (∀ W, Below w.heap.size w W → Calls Tryz.prog 17 #[.slice B lb.length cb] W fun e w' => ∃ v, e = .returned v ∧ Kd.R (Kd.int .u8) 5 w' W.heap.size (fun _ => True) v (enc8 lb) ∧ Below W.heap.size W w') := ⟨fun W hB => mm_ B cb lb W (Kd.C_below hr2 hB) hc2 hl2⟩
 have HS : Az (vi_ la lb = ((strOfNums (enc8 la)).toList == (strOfNums (enc8 lb)).toList)) := ⟨rfl⟩
 generalize vi_ la lb = r at *
 generalize enc8 la = ea at *
 generalize enc8 lb = eb at *
 have HB0 : Az (Below w.heap.size w w) := ⟨Below.refl _ _⟩
 clear hr1 hc1 hl1 hr2 hc2 hl2
 go_enter Tryz.func18, Tryz.ntmps18
 go_wp2_with fail
 refine wd_ (n := 8) (S := fun w' => w'.heap.size = w'.heap.size ∧ Az (Below w.heap.size w w')) (ds := []) (f_ 8 0) (by kernel_rfl) rfl rfl ⟨rfl, ⟨ga_ HB0.out⟩⟩ (fun hHeld => ?_)
 refine pU_ 0 5 ?_ (f_ 8 1) rfl rfl (by kernel_rfl) (fun _ _ _ h => h) (by rfl) ?_ ?_ ?_ ?_
 rotate_left
 ·intro w'
  go_simp; try with_reducible rfl
 rotate_left
 ·simp only [Act.put, s1_, s2_, s3_, ia_, ja_]
  rfl
 refine pU_ 3 8 ?_ #[true, false, false, true, false, false, false, false] rfl rfl (by kernel_rfl) (fun _ _ _ h => h) (by rfl) ?_ ?_ ?_ ?_
 rotate_left
 ·intro w'
  go_simp; try with_reducible rfl
 rotate_left
 ·simp only [Act.put, s1_, s2_, s3_, ia_, ja_]
  rfl
 refine one_ (i := 1) (N := some 6) #[true, true, false, true, false, false, false, false] rfl rfl (by kernel_rfl) (by decide) (fun K hK => ?_)
 refine wb_ Tryz.func17 (by kernel_rfl) rfl #[.slice A la.length ca] (by rfl) rfl rfl (by (try simp only [List.map_toArray, List.map_cons, List.map_nil]); rfl) ?_
 refine (HE1.out _ hHeld.2.out).mono ?_
 rintro e w1 ⟨v1, rfl, hr, hb⟩
 obtain ⟨S1, k1, hs1⟩ := Kd.R_slice hr
 subst hs1
 have HR1 := aM_ hr
 refine ⟨_, rfl, ?_⟩
 refine hK.out _ _ ⟨rfl, ⟨fa_ hHeld.2.out hb⟩⟩ (fun hHeld => ?_)
 clear hK K
 refine wa_ (a' := ?_) ?_ ?_
 rotate_left
 ·show Act.put _ (some 6) _ = _
  simp only [Act.put, s1_, s2_, s3_, ia_, ja_]; rfl
 refine two_ (i := 2) (j := 4) (Ni := some 7) (Nj := some 9) (f_ 8 4) #[true, true, false, true, true, false, false, false] rfl rfl rfl rfl (by kernel_rfl) (by decide) (by decide) (fun K hK => ?_) (fun K hK => ?_)
 ·have hcv : (convert 28 9 (.slice S1 ea.length k1)).run Tryz.prog w1 = .ok (.string (strOfNums ea)) w1 := Kd.C_string Tryz.underlying28 Tryz.underlying5 Tryz.underlying9 (Kd.R_reads' HR1.out).2.2
  refine hd_ (w1 := w1) (v := .string (strOfNums ea)) (by rfl) rfl ?_ ?_
  ·go_simp
  clear hcv; refine hK.out _ _ hHeld (fun hHeld => ?_); clear hK K; refine wa_ (a' := ?_) ?_ ?_; rotate_left
  ·show Act.put _ (some 7) _ = _
   simp only [Act.put, s1_, s2_, s3_, ia_, ja_]; rfl
  refine one_ (i := 4) (N := some 9) (f_ 8 5) rfl rfl (by kernel_rfl) (by decide) (fun K hK => ?_); refine wb_ Tryz.func17 (by kernel_rfl) rfl #[.slice B lb.length cb] (by rfl) rfl rfl (by (try simp only [List.map_toArray, List.map_cons, List.map_nil]); rfl) ?_
  refine (HE2.out _ hHeld.2.out).mono ?_; rintro e w2 ⟨v2, rfl, hr, hb⟩; obtain ⟨S2, k2, hs2⟩ := Kd.R_slice hr; subst hs2; have HR2 := aM_ hr; have HQ1 := aM_ (Kd.R_below HR1.out hb); refine ⟨_, rfl, ?_⟩; refine hK.out _ _ ⟨rfl, ⟨fa_ hHeld.2.out hb⟩⟩ (fun hHeld => ?_); clear hK K; refine wa_ (a' := ?_) ?_ ?_; rotate_left
  ·show Act.put _ (some 9) _ = _
   simp only [Act.put, s1_, s2_, s3_, ia_, ja_]; rfl
  refine one_ (i := 5) (N := some 10) (f_ 8 6) rfl rfl (by kernel_rfl) (by decide) (fun K hK => ?_); have hcv : (convert 28 9 (.slice S2 eb.length k2)).run Tryz.prog w2 = .ok (.string (strOfNums eb)) w2 := Kd.C_string Tryz.underlying28 Tryz.underlying5 Tryz.underlying9 (Kd.R_reads' HR2.out).2.2; refine hd_ (w1 := w2) (v := .string (strOfNums eb)) (by rfl) rfl ?_ ?_
  ·go_simp
  clear hcv; refine hK.out _ _ hHeld (fun hHeld => ?_); clear hK K; refine wa_ (a' := ?_) ?_ ?_; rotate_left
  ·show Act.put _ (some 10) _ = _
   simp only [Act.put, s1_, s2_, s3_, ia_, ja_]; rfl
  refine pU_ 6 11 ?_ (f_ 8 7) rfl rfl (by kernel_rfl) (fun _ _ _ h => h) (by rfl) ?_ ?_ ?_ ?_; rotate_left
  ·intro w'
   go_simp; try with_reducible rfl
  rotate_left
  ·simp only [Act.put, s1_, s2_, s3_, ia_, ja_]
   rfl
  refine pU_ 7 4 ?_ (f_ 8 8) rfl rfl (by kernel_rfl) (fun _ _ _ h => h) (by rfl) ?_ ?_ ?_ ?_; rotate_left
  ·intro w'
   go_simp; try with_reducible rfl
  rotate_left
  ·simp only [Act.put, s1_, s2_, s3_, ia_, ja_]
   rfl
  refine je_ (by kernel_rfl) ?_
  go_wp2
  go_ret
  rw [HS.out]; exact ⟨rfl, hHeld.2.out⟩
 refine wb_ Tryz.func17 (by kernel_rfl) rfl #[.slice B lb.length cb] (by rfl) rfl rfl (by (try simp only [List.map_toArray, List.map_cons, List.map_nil]); rfl) ?_
 refine (HE2.out _ hHeld.2.out).mono ?_
 rintro e w2 ⟨v2, rfl, hr, hb⟩
 obtain ⟨S2, k2, hs2⟩ := Kd.R_slice hr
 subst hs2
 have HR2 := aM_ hr
 have HQ1 := aM_ (Kd.R_below HR1.out hb)
 refine ⟨_, rfl, ?_⟩
 refine hK.out _ _ ⟨rfl, ⟨fa_ hHeld.2.out hb⟩⟩ (fun hHeld => ?_)
 clear hK K
 refine wa_ (a' := ?_) ?_ ?_
 rotate_left
 ·show Act.put _ (some 9) _ = _
  simp only [Act.put, s1_, s2_, s3_, ia_, ja_]; rfl
 refine two_ (i := 2) (j := 5) (Ni := some 7) (Nj := some 10) (f_ 8 5) #[true, true, false, true, true, true, false, false] rfl rfl rfl rfl (by kernel_rfl) (by decide) (by decide) (fun K hK => ?_) (fun K hK => ?_)
 ·have hcv : (convert 28 9 (.slice S1 ea.length k1)).run Tryz.prog w2 = .ok (.string (strOfNums ea)) w2 := Kd.C_string Tryz.underlying28 Tryz.underlying5 Tryz.underlying9 (Kd.R_reads' HQ1.out).2.2
  refine hd_ (w1 := w2) (v := .string (strOfNums ea)) (by rfl) rfl ?_ ?_
  ·go_simp
  clear hcv; refine hK.out _ _ hHeld (fun hHeld => ?_); clear hK K; refine wa_ (a' := ?_) ?_ ?_; rotate_left
  ·show Act.put _ (some 7) _ = _
   simp only [Act.put, s1_, s2_, s3_, ia_, ja_]; rfl
  refine one_ (i := 5) (N := some 10) (f_ 8 6) rfl rfl (by kernel_rfl) (by decide) (fun K hK => ?_); have hcv : (convert 28 9 (.slice S2 eb.length k2)).run Tryz.prog w2 = .ok (.string (strOfNums eb)) w2 := Kd.C_string Tryz.underlying28 Tryz.underlying5 Tryz.underlying9 (Kd.R_reads' HR2.out).2.2; refine hd_ (w1 := w2) (v := .string (strOfNums eb)) (by rfl) rfl ?_ ?_
  ·go_simp
  clear hcv; refine hK.out _ _ hHeld (fun hHeld => ?_); clear hK K; refine wa_ (a' := ?_) ?_ ?_; rotate_left
  ·show Act.put _ (some 10) _ = _
   simp only [Act.put, s1_, s2_, s3_, ia_, ja_]; rfl
  refine pU_ 6 11 ?_ (f_ 8 7) rfl rfl (by kernel_rfl) (fun _ _ _ h => h) (by rfl) ?_ ?_ ?_ ?_; rotate_left
  ·intro w'
   go_simp; try with_reducible rfl
  rotate_left
  ·simp only [Act.put, s1_, s2_, s3_, ia_, ja_]
   rfl
  refine pU_ 7 4 ?_ (f_ 8 8) rfl rfl (by kernel_rfl) (fun _ _ _ h => h) (by rfl) ?_ ?_ ?_ ?_; rotate_left
  ·intro w'
   go_simp; try with_reducible rfl
  rotate_left
  ·simp only [Act.put, s1_, s2_, s3_, ia_, ja_]
   rfl
  refine je_ (by kernel_rfl) ?_
  go_wp2
  go_ret
  rw [HS.out]; exact ⟨rfl, hHeld.2.out⟩
 have hcv : (convert 28 9 (.slice S2 eb.length k2)).run Tryz.prog w2 = .ok (.string (strOfNums eb)) w2 := Kd.C_string Tryz.underlying28 Tryz.underlying5 Tryz.underlying9 (Kd.R_reads' HR2.out).2.2
 refine hd_ (w1 := w2) (v := .string (strOfNums eb)) (by rfl) rfl ?_ ?_
 ·go_simp
 clear hcv
 refine hK.out _ _ hHeld (fun hHeld => ?_)
 clear hK K
 refine wa_ (a' := ?_) ?_ ?_
 rotate_left
 ·show Act.put _ (some 10) _ = _
  simp only [Act.put, s1_, s2_, s3_, ia_, ja_]; rfl
 refine one_ (i := 2) (N := some 7) (f_ 8 6) rfl rfl (by kernel_rfl) (by decide) (fun K hK => ?_)
 have hcv : (convert 28 9 (.slice S1 ea.length k1)).run Tryz.prog w2 = .ok (.string (strOfNums ea)) w2 := Kd.C_string Tryz.underlying28 Tryz.underlying5 Tryz.underlying9 (Kd.R_reads' HQ1.out).2.2
 refine hd_ (w1 := w2) (v := .string (strOfNums ea)) (by rfl) rfl ?_ ?_
 ·go_simp
 clear hcv
 refine hK.out _ _ hHeld (fun hHeld => ?_)
 clear hK K
 refine wa_ (a' := ?_) ?_ ?_
 rotate_left
 ·show Act.put _ (some 7) _ = _
  simp only [Act.put, s1_, s2_, s3_, ia_, ja_]; rfl
 refine pU_ 6 11 ?_ (f_ 8 7) rfl rfl (by kernel_rfl) (fun _ _ _ h => h) (by rfl) ?_ ?_ ?_ ?_
 rotate_left
 ·intro w'
  go_simp; try with_reducible rfl
 rotate_left
 ·simp only [Act.put, s1_, s2_, s3_, ia_, ja_]
  rfl
 refine pU_ 7 4 ?_ (f_ 8 8) rfl rfl (by kernel_rfl) (fun _ _ _ h => h) (by rfl) ?_ ?_ ?_ ?_
 rotate_left
 ·intro w'
  go_simp; try with_reducible rfl
 rotate_left
 ·simp only [Act.put, s1_, s2_, s3_, ia_, ja_]
  rfl
 refine je_ (by kernel_rfl) ?_
 go_wp2
 go_ret
 rw [HS.out]
 exact ⟨rfl, hHeld.2.out⟩
def xa_ {α : Type} (rd : Nat → Option (α × Nat)) : Nat → Nat → Option (List α × Nat)
 | 0, q => some ([], q)
 | n + 1, q => (rd q).bind fun z => (xa_ rd n z.2).map fun y => (z.1 :: y.1, y.2)
def ib_ {α : Type} (rd : Nat → Option (α × Nat)) (b : List Int) (p : Nat) : Option (List α × Nat) := (pNum b p).bind fun z => if z.1 < 0 ∨ ((b.length : Int) - z.2) / 8 < z.1 then none else xa_ rd z.1.toNat z.2
theorem Kd.R_own_lt {α : Type} {d : Kd α} {e base : Nat} {ok : Nat → Prop} {w : World} {v : Value} {xs : List α} (h : d.R e w base ok v xs) {k : Nat} (hk : v.ownBlock = some k) : k < w.heap.size := by
 obtain ⟨inner, ho⟩ := Kd.R_own h
 exact tr_ ho k hk
theorem jq_ (w0 : World) (h : Nat) (A : Option Addr) (b : List Int) (c p : Nat) (W : World) (hs : Src w0 A b c) (hr : RdAt w0 h A b c p W) :
  Calls Tryz.prog 127 #[.pointer (some ⟨h, 0, none⟩), .func (.func 82) #[.pointer (some ⟨h, 0, none⟩)] #[]] W fun e W' => Rd w0 h A b c W (VR (Kd.int .i64) 3 w0 W) e W' (ib_ (pNum b) b p) := by
 have HS := aM_ hs
 have hlb := hs.len
 have HG : Az (h < W.heap.size) := ⟨za_ hr.blk⟩
 have HP0 : Az (ib_ (pNum b) b p = (pNum b p).bind fun z => if z.1 < 0 ∨ ((b.length : Int) - z.2) / 8 < z.1 then none else xa_ (pNum b) z.1.toNat z.2) := ⟨rfl⟩
 have HQ0 := aM_ (kc_ w0 h A b c p W hs hr)
 clear hs hr
 go_enter Tryz.func127, Tryz.ntmps127
 go_wp2_with fail
 refine HQ0.out.mono ?_
 intro e w1 hq
 cases hp : pNum b p with
 | none =>
  rw [hp] at hq; obtain ⟨⟨T, v, rfl⟩, hbl⟩ := hq
  exact ⟨rfl, by rw [HP0.out, hp]; exact ⟨⟨T, v, rfl⟩, hbl⟩⟩
 | some z =>
  obtain ⟨n, q0⟩ := z; rw [hp] at hq; obtain ⟨⟨v, rfl, rfl⟩, hr1, hk1⟩ := hq; have HP1 : Az (ib_ (pNum b) b p = if n < 0 ∨ ((b.length : Int) - q0) / 8 < n then none else xa_ (pNum b) n.toNat q0) := ⟨by rw [HP0.out, hp]; rfl⟩; have hpos := hr1.pos; have c0 : w1.cell? ⟨h, 0, none⟩ = some (.slice A b.length c) := ba_ hr1.blk 0; have c1 : w1.cell? ⟨h, 1, none⟩ = some (.int .i64 (q0 : Int)) := ba_ hr1.blk 1; have HR1 := aM_ hr1; have HK1 := aM_ hk1; have hw1 : wrap64 ((b.length : Int) - (q0 : Int)) = (b.length : Int) - (q0 : Int) := by rw [wrap64]; omega
  have hw2 : wrap64 (((b.length : Int) - (q0 : Int)) / 8) = ((b.length : Int) - (q0 : Int)) / 8 := by rw [wrap64]; omega
  have hdd : ((b.length : Int) - (q0 : Int)) / 8 ≤ 125000000000 := by omega
  clear hr1 hk1 hp HQ0 HP0
  by_cases hbad : n < 0 ∨ ((b.length : Int) - (q0 : Int)) / 8 < n
  ·have HPP : Az (ib_ (pNum b) b p = none) := ⟨by rw [HP1.out, if_pos hbad]⟩
   by_cases hn0 : n < 0
   ·have e1 : decide (n < 0) = true := decide_eq_true hn0
    clear hbad hn0
    go_wp2
    go_quiet (fail)
    go_wp2
    refine ⟨rfl, ?_⟩; rw [HPP.out]; exact ⟨⟨_, _, rfl⟩, fa_ HR1.out.below (ca_ (Below.refl _ _) _)⟩
   have e1 : decide (n < 0) = false := decide_eq_false hn0; have e2 : decide (((b.length : Int) - (q0 : Int)) / 8 < n) = true := decide_eq_true (by omega); clear hbad hn0
   go_wp2
   go_quiet (fail)
   go_wp2
   refine ⟨rfl, ?_⟩; rw [HPP.out]; exact ⟨⟨_, _, rfl⟩, fa_ HR1.out.below (ca_ (Below.refl _ _) _)⟩
  obtain ⟨m, rfl⟩ : ∃ m : Nat, n = (m : Int) := ⟨n.toNat, by omega⟩; have hm : m ≤ 125000000000 := by omega
  have e1 : decide ((m : Int) < 0) = false := decide_eq_false (by omega); have e2 : decide (((b.length : Int) - (q0 : Int)) / 8 < (m : Int)) = false := decide_eq_false (by omega); have HPP : Az (ib_ (pNum b) b p = xa_ (pNum b) m q0) := ⟨by rw [HP1.out, if_neg hbad, Int.toNat_natCast]⟩; clear hbad HP1
  go_wp2
  go_quiet (fail)
  have HR2 : Az (RdAt w0 h A b c q0 (w1.drewN nq)) := ⟨⟨HR1.out.blk, ca_ HR1.out.below _, HR1.out.ge, HR1.out.pos⟩⟩; have HK2 : Az (KeptR h W (w1.drewN nq)) := ⟨HK1.out.trans (KeptR.below (ca_ (Below.refl _ _) _))⟩; have HR0 : Az (Kd.R (Kd.int .i64) 3 (w1.drewN nq) w0.heap.size (fun k => W.heap.size ≤ k) (.slice none 0 0) []) := ⟨Kd.R_nil _ _ _ _ _⟩; have HT0 : Az (xa_ (pNum b) m q0 = (xa_ (pNum b) (m - 0) q0).map fun y => ([] ++ y.1, y.2)) := ⟨by simp⟩; clear HR1 HK1 c0 c1; generalize w1.drewN nq = w2 at *
  go_wp2
  go_loopg [6, 33] m (fun gg s6 s33 wr => ∃ (i : Nat) (xs : List Int) (q : Nat), i ≤ m ∧ m - i ≤ gg ∧ s33 = .int .i64 i ∧ Az (xs.length = i) ∧ Az (xa_ (pNum b) m q0 = (xa_ (pNum b) (m - i) q).map fun y => (xs ++ y.1, y.2)) ∧ Az (Kd.R (Kd.int .i64) 3 wr w0.heap.size (fun k => W.heap.size ≤ k) s6 xs) ∧ Az (RdAt w0 h A b c q wr) ∧ Az (KeptR h W wr))
  case atStart => exact ⟨0, [], q0, by omega, by omega, rfl, ⟨rfl⟩, HT0, HR0, HR2, HK2⟩
  clear HR0 HR2 HK2 HT0; obtain ⟨i, xs, q, hi, hgg, rfl, HL, HT, HX, HW, HK⟩ := hrel; obtain ⟨A6, c6, hs6⟩ := Kd.R_slice HX.out; subst hs6
  by_cases hil : i < m
  ·have hilz : (i : Int) < (m : Int) := by omega
   have HQ := aM_ (kc_ w0 h A b c q wr HS.out HW.out)
   go_wp2_with fail
   refine HQ.out.mono ?_; intro e w3 hq
   cases hp : pNum b q with
   | none =>
    rw [hp] at hq; obtain ⟨⟨T, v, rfl⟩, hbl⟩ := hq
    exact ⟨rfl, by rw [HPP.out, HT.out, show m - i = (m - i - 1) + 1 from by omega, xa_, hp]; exact ⟨⟨T, v, rfl⟩, hbl⟩⟩
   | some z =>
    obtain ⟨x, q1⟩ := z; rw [hp] at hq; obtain ⟨⟨v, rfl, rfl⟩, hr1, hk1⟩ := hq; have hv : Kd.M (Kd.int .i64) w3 w0.heap.size (fun k => wr.heap.size ≤ k) x [.int .i64 x] := rfl
    have HT1 : Az (xa_ (pNum b) m q0 = (xa_ (pNum b) (m - (i + 1)) q1).map fun y => (xs ++ [x] ++ y.1, y.2)) := ⟨by
     rw [HT.out, show m - i = (m - (i + 1)) + 1 from by omega, xa_, hp]; simp only [Option.bind_some, Option.map_map]
     congr 1
     funext y
     simp⟩
    have HX1 := aM_ (ue_ HX.out hk1 (fun k hk => by have := HG.out; omega)); have HW1 := aM_ hr1; have HK1 := aM_ (HK.out.trans hk1); have HSZ := aM_ (HK.out.size HW.out); have HSY := aM_ (hk1.size hr1); have hlx : xs.length ≤ 125000000000 := by rw [HL.out]; omega
    have HLX := aM_ hlx; have HOW : Az (∀ k, (Value.slice A6 xs.length c6).ownBlock = some k → k < wr.heap.size) := ⟨fun k hk => Kd.R_own_lt HX.out hk⟩; clear hp hr1 hk1 HQ hlx HT HX HK
    go_wp2_with (at_builtin; go_loud (refine Kd.R_append (Kd.int .i64) (w0 := w0) w0.heap.size rfl (.tmp 35) (.tmp 38) 35 3 (.int .i64 0) 8 rfl Tryz.underlying35 (by kernel_rfl) rfl (by show 0 < 1; decide) (by decide) (.slice A6 xs.length c6) xs x [.int .i64 x] (fun k => W.heap.size ≤ k) (fun k => wr.heap.size ≤ k) rfl rfl hv ?hok ?hf HX1.out ?hB ?hb ?hl ?_); (case hok => go_loud (exact (fun k hk => ⟨Nat.le_trans HSZ.out hk, fun e => by have := HOW.out k e.symm; omega⟩))); (case hf => go_loud (exact (fun k hk => by have := HSZ.out; have := HSY.out; omega))); (case hB => go_loud (exact HW1.out.below)); (case hb => go_loud (exact HW1.out.below.size)); (case hl => go_loud (have := HLX.out; omega)); intro v4 w4 ho hb hg hat)
    have HR5 : Az (RdAt w0 h A b c q1 w4) := ⟨⟨gb_ HW1.out.blk hg (fun e => by have := HX1.out.1 _ e.symm; have := HG.out; omega), hb, HW1.out.ge, HW1.out.pos⟩⟩; have HK5 : Az (KeptR h W w4) := ⟨fun k o hko hne => gb_ (HK1.out k o hko hne) hg (fun e => by have := HX1.out.1 _ e.symm; have := za_ hko; omega)⟩; have HX5 := aM_ ho; have HL5 : Az ((xs ++ [x]).length = i + 1) := ⟨by rw [List.length_append, HL.out]; rfl⟩; clear ho hb hg hat hv HX1 HW1 HK1 HL HOW HSZ HSY HLX; generalize xs ++ [x] = ys at *; obtain ⟨A7, c7, hs7⟩ := Kd.R_slice HX5.out; subst hs7
    go_wp2
    go_roundg (m - (i + 1))
    case measure => omega
    case rel => exact ⟨i + 1, ys, q1, by omega, by omega, by go_num, HL5, HT1, HX5, HR5, HK5⟩
  have he : i = m := by omega
  have hilz : decide ((i : Int) < (m : Int)) = false := by simp; omega
  have HPQ : Az (ib_ (pNum b) b p = some (xs, q)) := ⟨by rw [HPP.out, HT.out, he, Nat.sub_self, xa_]; simp⟩; have HCL := aM_ (cloneI A6 c6 xs wr W.heap.size w0.heap.size HX.out (HK.out.size HW.out) HW.out.below.size (by rw [HL.out]; omega)); clear he HPP HT HL
  go_wp2_with fail
  refine HCL.out.mono ?_; rintro e w5 ⟨v5, rfl, hR5, hB5⟩; have HO := aM_ hR5; have HR6 : Az (RdAt w0 h A b c q w5) := ⟨⟨oa_ HW.out.blk hB5, fa_ HW.out.below hB5, HW.out.ge, HW.out.pos⟩⟩; have HK6 : Az (KeptR h W w5) := ⟨HK.out.trans (KeptR.below hB5)⟩; obtain ⟨A7, c7, hs7⟩ := Kd.R_slice hR5; subst hs7; clear hR5 hB5 HCL
  go_wp2
  go_ret
  rw [HPQ.out]; exact ⟨⟨_, rfl, HO.out⟩, HR6.out, HK6.out⟩
theorem manyE_rd (w0 : World) (h : Nat) (A : Option Addr) (b : List Int) (c p : Nat) (W : World) (hs : Src w0 A b c) (hr : RdAt w0 h A b c p W) :
  Calls Tryz.prog 85 #[.pointer (some ⟨h, 0, none⟩), .func (.func 86) #[.pointer (some ⟨h, 0, none⟩)] #[]] W fun e W' => Rd w0 h A b c W (VR k46 46 w0 W) e W' (ib_ (pEnt b) b p) := by
 have HS := aM_ hs
 have hlb := hs.len
 have HG : Az (h < W.heap.size) := ⟨za_ hr.blk⟩
 have HP0 : Az (ib_ (pEnt b) b p = (pNum b p).bind fun z => if z.1 < 0 ∨ ((b.length : Int) - z.2) / 8 < z.1 then none else xa_ (pEnt b) z.1.toNat z.2) := ⟨rfl⟩
 have HQ0 := aM_ (kc_ w0 h A b c p W hs hr)
 clear hs hr
 go_enter Tryz.func85, Tryz.ntmps85
 go_wp2_with fail
 refine HQ0.out.mono ?_
 intro e w1 hq
 cases hp : pNum b p with
 | none =>
  rw [hp] at hq; obtain ⟨⟨T, v, rfl⟩, hbl⟩ := hq
  exact ⟨rfl, by rw [HP0.out, hp]; exact ⟨⟨T, v, rfl⟩, hbl⟩⟩
 | some z =>
  obtain ⟨n, q0⟩ := z; rw [hp] at hq; obtain ⟨⟨v, rfl, rfl⟩, hr1, hk1⟩ := hq; have HP1 : Az (ib_ (pEnt b) b p = if n < 0 ∨ ((b.length : Int) - q0) / 8 < n then none else xa_ (pEnt b) n.toNat q0) := ⟨by rw [HP0.out, hp]; rfl⟩; have hpos := hr1.pos; have c0 : w1.cell? ⟨h, 0, none⟩ = some (.slice A b.length c) := ba_ hr1.blk 0; have c1 : w1.cell? ⟨h, 1, none⟩ = some (.int .i64 (q0 : Int)) := ba_ hr1.blk 1; have HR1 := aM_ hr1; have HK1 := aM_ hk1; have hw1 : wrap64 ((b.length : Int) - (q0 : Int)) = (b.length : Int) - (q0 : Int) := by rw [wrap64]; omega
  have hw2 : wrap64 (((b.length : Int) - (q0 : Int)) / 8) = ((b.length : Int) - (q0 : Int)) / 8 := by rw [wrap64]; omega
  have hdd : ((b.length : Int) - (q0 : Int)) / 8 ≤ 125000000000 := by omega
  clear hr1 hk1 hp HQ0 HP0
  by_cases hbad : n < 0 ∨ ((b.length : Int) - (q0 : Int)) / 8 < n
  ·have HPP : Az (ib_ (pEnt b) b p = none) := ⟨by rw [HP1.out, if_pos hbad]⟩
   by_cases hn0 : n < 0
   ·have e1 : decide (n < 0) = true := decide_eq_true hn0
    clear hbad hn0
    go_wp2
    go_quiet (fail)
    go_wp2
    refine ⟨rfl, ?_⟩; rw [HPP.out]; exact ⟨⟨_, _, rfl⟩, fa_ HR1.out.below (ca_ (Below.refl _ _) _)⟩
   have e1 : decide (n < 0) = false := decide_eq_false hn0; have e2 : decide (((b.length : Int) - (q0 : Int)) / 8 < n) = true := decide_eq_true (by omega); clear hbad hn0
   go_wp2
   go_quiet (fail)
   go_wp2
   refine ⟨rfl, ?_⟩; rw [HPP.out]; exact ⟨⟨_, _, rfl⟩, fa_ HR1.out.below (ca_ (Below.refl _ _) _)⟩
  obtain ⟨m, rfl⟩ : ∃ m : Nat, n = (m : Int) := ⟨n.toNat, by omega⟩; have hm : m ≤ 125000000000 := by omega
  have e1 : decide ((m : Int) < 0) = false := decide_eq_false (by omega); have e2 : decide (((b.length : Int) - (q0 : Int)) / 8 < (m : Int)) = false := decide_eq_false (by omega); have HPP : Az (ib_ (pEnt b) b p = xa_ (pEnt b) m q0) := ⟨by rw [HP1.out, if_neg hbad, Int.toNat_natCast]⟩; clear hbad HP1
  go_wp2
  go_quiet (fail)
  have HR2 : Az (RdAt w0 h A b c q0 (w1.drewN nq)) := ⟨⟨HR1.out.blk, ca_ HR1.out.below _, HR1.out.ge, HR1.out.pos⟩⟩; have HK2 : Az (KeptR h W (w1.drewN nq)) := ⟨HK1.out.trans (KeptR.below (ca_ (Below.refl _ _) _))⟩; have HR0 : Az (Kd.R k46 46 (w1.drewN nq) w0.heap.size (fun k => W.heap.size ≤ k) (.slice none 0 0) []) := ⟨Kd.R_nil _ _ _ _ _⟩; have HT0 : Az (xa_ (pEnt b) m q0 = (xa_ (pEnt b) (m - 0) q0).map fun y => ([] ++ y.1, y.2)) := ⟨by simp⟩; clear HR1 HK1 c0 c1; generalize w1.drewN nq = w2 at *
  go_wp2
  go_loopg [6, 33] m (fun gg s6 s33 wr => ∃ (i : Nat) (xs : List S46) (q : Nat), i ≤ m ∧ m - i ≤ gg ∧ s33 = .int .i64 i ∧ Az (xs.length = i) ∧ Az (xa_ (pEnt b) m q0 = (xa_ (pEnt b) (m - i) q).map fun y => (xs ++ y.1, y.2)) ∧ Az (Kd.R k46 46 wr w0.heap.size (fun k => W.heap.size ≤ k) s6 xs) ∧ Az (RdAt w0 h A b c q wr) ∧ Az (KeptR h W wr))
  case atStart => exact ⟨0, [], q0, by omega, by omega, rfl, ⟨rfl⟩, HT0, HR0, HR2, HK2⟩
  clear HR0 HR2 HK2 HT0; obtain ⟨i, xs, q, hi, hgg, rfl, HL, HT, HX, HW, HK⟩ := hrel; obtain ⟨A6, c6, hs6⟩ := Kd.R_slice HX.out; subst hs6
  by_cases hil : i < m
  ·have hilz : (i : Int) < (m : Int) := by omega
   have HQ := aM_ (entry_rd w0 h A b c q wr HS.out HW.out)
   go_wp2_with fail
   refine HQ.out.mono ?_; intro e w3 hq
   cases hp : pEnt b q with
   | none =>
    rw [hp] at hq; obtain ⟨⟨T, v, rfl⟩, hbl⟩ := hq
    exact ⟨rfl, by rw [HPP.out, HT.out, show m - i = (m - i - 1) + 1 from by omega, xa_, hp]; exact ⟨⟨T, v, rfl⟩, hbl⟩⟩
   | some z =>
    obtain ⟨x, q1⟩ := z; rw [hp] at hq; obtain ⟨⟨v, rfl, cs, rfl, hm⟩, hr1, hk1⟩ := hq; obtain rfl := yu_ hm; have hv := hm; clear hm
    have HT1 : Az (xa_ (pEnt b) m q0 = (xa_ (pEnt b) (m - (i + 1)) q1).map fun y => (xs ++ [x] ++ y.1, y.2)) := ⟨by
     rw [HT.out, show m - i = (m - (i + 1)) + 1 from by omega, xa_, hp]; simp only [Option.bind_some, Option.map_map]
     congr 1
     funext y
     simp⟩
    have HX1 := aM_ (ue_ HX.out hk1 (fun k hk => by have := HG.out; omega)); have HW1 := aM_ hr1; have HK1 := aM_ (HK.out.trans hk1); have HSZ := aM_ (HK.out.size HW.out); have HSY := aM_ (hk1.size hr1); have hlx : xs.length ≤ 125000000000 := by rw [HL.out]; omega
    have HLX := aM_ hlx; have HOW : Az (∀ k, (Value.slice A6 xs.length c6).ownBlock = some k → k < wr.heap.size) := ⟨fun k hk => Kd.R_own_lt HX.out hk⟩; clear hp hr1 hk1 HQ hlx HT HX HK
    go_wp2_with (at_builtin; go_loud (refine Kd.R_append k46 (w0 := w0) w0.heap.size rfl (.tmp 35) (.tmp 38) 40 46 (.agg #[.string ⟨#[]⟩, .int .i64 0, .int .i64 0]) 32 rfl Tryz.underlying40 (by kernel_rfl) rfl (by show 0 < 3; decide) (by decide) (.slice A6 xs.length c6) xs x [.string x.f0, .int .i64 x.f1, .int .i64 x.f2] (fun k => W.heap.size ≤ k) (fun k => wr.heap.size ≤ k) rfl rfl hv ?hok ?hf HX1.out ?hB ?hb ?hl ?_); (case hok => go_loud (exact (fun k hk => ⟨Nat.le_trans HSZ.out hk, fun e => by have := HOW.out k e.symm; omega⟩))); (case hf => go_loud (exact (fun k hk => by have := HSZ.out; have := HSY.out; omega))); (case hB => go_loud (exact HW1.out.below)); (case hb => go_loud (exact HW1.out.below.size)); (case hl => go_loud (have := HLX.out; omega)); intro v4 w4 ho hb hg hat)
    have HR5 : Az (RdAt w0 h A b c q1 w4) := ⟨⟨gb_ HW1.out.blk hg (fun e => by have := HX1.out.1 _ e.symm; have := HG.out; omega), hb, HW1.out.ge, HW1.out.pos⟩⟩; have HK5 : Az (KeptR h W w4) := ⟨fun k o hko hne => gb_ (HK1.out k o hko hne) hg (fun e => by have := HX1.out.1 _ e.symm; have := za_ hko; omega)⟩; have HX5 := aM_ ho; have HL5 : Az ((xs ++ [x]).length = i + 1) := ⟨by rw [List.length_append, HL.out]; rfl⟩; clear ho hb hg hat hv HX1 HW1 HK1 HL HOW HSZ HSY HLX; generalize xs ++ [x] = ys at *; obtain ⟨A7, c7, hs7⟩ := Kd.R_slice HX5.out; subst hs7
    go_wp2
    go_roundg (m - (i + 1))
    case measure => omega
    case rel => exact ⟨i + 1, ys, q1, by omega, by omega, by go_num, HL5, HT1, HX5, HR5, HK5⟩
  have he : i = m := by omega
  have hilz : decide ((i : Int) < (m : Int)) = false := by simp; omega
  have HPQ : Az (ib_ (pEnt b) b p = some (xs, q)) := ⟨by rw [HPP.out, HT.out, he, Nat.sub_self, xa_]; simp⟩; have HCL := aM_ (cloneE A6 c6 xs wr W.heap.size w0.heap.size HX.out (HK.out.size HW.out) HW.out.below.size (by rw [HL.out]; omega)); clear he HPP HT HL
  go_wp2_with fail
  refine HCL.out.mono ?_; rintro e w5 ⟨v5, rfl, hR5, hB5⟩; have HO := aM_ hR5; have HR6 : Az (RdAt w0 h A b c q w5) := ⟨⟨oa_ HW.out.blk hB5, fa_ HW.out.below hB5, HW.out.ge, HW.out.pos⟩⟩; have HK6 : Az (KeptR h W w5) := ⟨HK.out.trans (KeptR.below hB5)⟩; obtain ⟨A7, c7, hs7⟩ := Kd.R_slice hR5; subst hs7; clear hR5 hB5 HCL
  go_wp2
  go_ret
  rw [HPQ.out]; exact ⟨⟨_, rfl, HO.out⟩, HR6.out, HK6.out⟩
theorem manyP_rd (w0 : World) (h : Nat) (A : Option Addr) (b : List Int) (c p : Nat) (W : World) (hs : Src w0 A b c) (hr : RdAt w0 h A b c p W) :
  Calls Tryz.prog 128 #[.pointer (some ⟨h, 0, none⟩), .func (.func 129) #[.pointer (some ⟨h, 0, none⟩)] #[]] W fun e W' => Rd w0 h A b c W (VR k48 48 w0 W) e W' (ib_ (zd_ b) b p) := by
 have HS := aM_ hs
 have hlb := hs.len
 have HG : Az (h < W.heap.size) := ⟨za_ hr.blk⟩
 have HP0 : Az (ib_ (zd_ b) b p = (pNum b p).bind fun z => if z.1 < 0 ∨ ((b.length : Int) - z.2) / 8 < z.1 then none else xa_ (zd_ b) z.1.toNat z.2) := ⟨rfl⟩
 have HQ0 := aM_ (kc_ w0 h A b c p W hs hr)
 clear hs hr
 go_enter Tryz.func128, Tryz.ntmps128
 go_wp2_with fail
 refine HQ0.out.mono ?_
 intro e w1 hq
 cases hp : pNum b p with
 | none =>
  rw [hp] at hq; obtain ⟨⟨T, v, rfl⟩, hbl⟩ := hq
  exact ⟨rfl, by rw [HP0.out, hp]; exact ⟨⟨T, v, rfl⟩, hbl⟩⟩
 | some z =>
  obtain ⟨n, q0⟩ := z; rw [hp] at hq; obtain ⟨⟨v, rfl, rfl⟩, hr1, hk1⟩ := hq; have HP1 : Az (ib_ (zd_ b) b p = if n < 0 ∨ ((b.length : Int) - q0) / 8 < n then none else xa_ (zd_ b) n.toNat q0) := ⟨by rw [HP0.out, hp]; rfl⟩; have hpos := hr1.pos; have c0 : w1.cell? ⟨h, 0, none⟩ = some (.slice A b.length c) := ba_ hr1.blk 0; have c1 : w1.cell? ⟨h, 1, none⟩ = some (.int .i64 (q0 : Int)) := ba_ hr1.blk 1; have HR1 := aM_ hr1; have HK1 := aM_ hk1; have hw1 : wrap64 ((b.length : Int) - (q0 : Int)) = (b.length : Int) - (q0 : Int) := by rw [wrap64]; omega
  have hw2 : wrap64 (((b.length : Int) - (q0 : Int)) / 8) = ((b.length : Int) - (q0 : Int)) / 8 := by rw [wrap64]; omega
  have hdd : ((b.length : Int) - (q0 : Int)) / 8 ≤ 125000000000 := by omega
  clear hr1 hk1 hp HQ0 HP0
  by_cases hbad : n < 0 ∨ ((b.length : Int) - (q0 : Int)) / 8 < n
  ·have HPP : Az (ib_ (zd_ b) b p = none) := ⟨by rw [HP1.out, if_pos hbad]⟩
   by_cases hn0 : n < 0
   ·have e1 : decide (n < 0) = true := decide_eq_true hn0
    clear hbad hn0
    go_wp2
    go_quiet (fail)
    go_wp2
    refine ⟨rfl, ?_⟩; rw [HPP.out]; exact ⟨⟨_, _, rfl⟩, fa_ HR1.out.below (ca_ (Below.refl _ _) _)⟩
   have e1 : decide (n < 0) = false := decide_eq_false hn0; have e2 : decide (((b.length : Int) - (q0 : Int)) / 8 < n) = true := decide_eq_true (by omega); clear hbad hn0
   go_wp2
   go_quiet (fail)
   go_wp2
   refine ⟨rfl, ?_⟩; rw [HPP.out]; exact ⟨⟨_, _, rfl⟩, fa_ HR1.out.below (ca_ (Below.refl _ _) _)⟩
  obtain ⟨m, rfl⟩ : ∃ m : Nat, n = (m : Int) := ⟨n.toNat, by omega⟩; have hm : m ≤ 125000000000 := by omega
  have e1 : decide ((m : Int) < 0) = false := decide_eq_false (by omega); have e2 : decide (((b.length : Int) - (q0 : Int)) / 8 < (m : Int)) = false := decide_eq_false (by omega); have HPP : Az (ib_ (zd_ b) b p = xa_ (zd_ b) m q0) := ⟨by rw [HP1.out, if_neg hbad, Int.toNat_natCast]⟩; clear hbad HP1
  go_wp2
  go_quiet (fail)
  have HR2 : Az (RdAt w0 h A b c q0 (w1.drewN nq)) := ⟨⟨HR1.out.blk, ca_ HR1.out.below _, HR1.out.ge, HR1.out.pos⟩⟩; have HK2 : Az (KeptR h W (w1.drewN nq)) := ⟨HK1.out.trans (KeptR.below (ca_ (Below.refl _ _) _))⟩; have HR0 : Az (Kd.R k48 48 (w1.drewN nq) w0.heap.size (fun k => W.heap.size ≤ k) (.slice none 0 0) []) := ⟨Kd.R_nil _ _ _ _ _⟩; have HT0 : Az (xa_ (zd_ b) m q0 = (xa_ (zd_ b) (m - 0) q0).map fun y => ([] ++ y.1, y.2)) := ⟨by simp⟩; clear HR1 HK1 c0 c1; generalize w1.drewN nq = w2 at *
  go_wp2
  go_loopg [6, 33] m (fun gg s6 s33 wr => ∃ (i : Nat) (xs : List S48) (q : Nat), i ≤ m ∧ m - i ≤ gg ∧ s33 = .int .i64 i ∧ Az (xs.length = i) ∧ Az (xa_ (zd_ b) m q0 = (xa_ (zd_ b) (m - i) q).map fun y => (xs ++ y.1, y.2)) ∧ Az (Kd.R k48 48 wr w0.heap.size (fun k => W.heap.size ≤ k) s6 xs) ∧ Az (RdAt w0 h A b c q wr) ∧ Az (KeptR h W wr))
  case atStart => exact ⟨0, [], q0, by omega, by omega, rfl, ⟨rfl⟩, HT0, HR0, HR2, HK2⟩
  clear HR0 HR2 HK2 HT0; obtain ⟨i, xs, q, hi, hgg, rfl, HL, HT, HX, HW, HK⟩ := hrel; obtain ⟨A6, c6, hs6⟩ := Kd.R_slice HX.out; subst hs6
  by_cases hil : i < m
  ·have hilz : (i : Int) < (m : Int) := by omega
   have HQ := aM_ (part_rd w0 h A b c q wr HS.out HW.out)
   go_wp2_with fail
   refine HQ.out.mono ?_; intro e w3 hq
   cases hp : zd_ b q with
   | none =>
    rw [hp] at hq; obtain ⟨⟨T, v, rfl⟩, hbl⟩ := hq
    exact ⟨rfl, by rw [HPP.out, HT.out, show m - i = (m - i - 1) + 1 from by omega, xa_, hp]; exact ⟨⟨T, v, rfl⟩, hbl⟩⟩
   | some z =>
    obtain ⟨x, q1⟩ := z; rw [hp] at hq; obtain ⟨⟨v, rfl, cs, rfl, hm⟩, hr1, hk1⟩ := hq; obtain rfl := xu_ hm; have hv := hm; clear hm
    have HT1 : Az (xa_ (zd_ b) m q0 = (xa_ (zd_ b) (m - (i + 1)) q1).map fun y => (xs ++ [x] ++ y.1, y.2)) := ⟨by
     rw [HT.out, show m - i = (m - (i + 1)) + 1 from by omega, xa_, hp]; simp only [Option.bind_some, Option.map_map]
     congr 1
     funext y
     simp⟩
    have HX1 := aM_ (ue_ HX.out hk1 (fun k hk => by have := HG.out; omega)); have HW1 := aM_ hr1; have HK1 := aM_ (HK.out.trans hk1); have HSZ := aM_ (HK.out.size HW.out); have HSY := aM_ (hk1.size hr1); have hlx : xs.length ≤ 125000000000 := by rw [HL.out]; omega
    have HLX := aM_ hlx; have HOW : Az (∀ k, (Value.slice A6 xs.length c6).ownBlock = some k → k < wr.heap.size) := ⟨fun k hk => Kd.R_own_lt HX.out hk⟩; clear hp hr1 hk1 HQ hlx HT HX HK
    go_wp2_with (at_builtin; go_loud (refine Kd.R_append k48 (w0 := w0) w0.heap.size rfl (.tmp 35) (.tmp 38) 50 48 (.agg #[.int .i64 0, .string ⟨#[]⟩, .int .i64 0, .int .i64 0, .int .i64 0]) 48 rfl Tryz.underlying50 (by kernel_rfl) rfl (by show 0 < 5; decide) (by decide) (.slice A6 xs.length c6) xs x [.int .i64 x.f0, .string x.f1, .int .i64 x.f2, .int .i64 x.f3, .int .i64 x.f4] (fun k => W.heap.size ≤ k) (fun k => wr.heap.size ≤ k) rfl rfl hv ?hok ?hf HX1.out ?hB ?hb ?hl ?_); (case hok => go_loud (exact (fun k hk => ⟨Nat.le_trans HSZ.out hk, fun e => by have := HOW.out k e.symm; omega⟩))); (case hf => go_loud (exact (fun k hk => by have := HSZ.out; have := HSY.out; omega))); (case hB => go_loud (exact HW1.out.below)); (case hb => go_loud (exact HW1.out.below.size)); (case hl => go_loud (have := HLX.out; omega)); intro v4 w4 ho hb hg hat)
    have HR5 : Az (RdAt w0 h A b c q1 w4) := ⟨⟨gb_ HW1.out.blk hg (fun e => by have := HX1.out.1 _ e.symm; have := HG.out; omega), hb, HW1.out.ge, HW1.out.pos⟩⟩; have HK5 : Az (KeptR h W w4) := ⟨fun k o hko hne => gb_ (HK1.out k o hko hne) hg (fun e => by have := HX1.out.1 _ e.symm; have := za_ hko; omega)⟩; have HX5 := aM_ ho; have HL5 : Az ((xs ++ [x]).length = i + 1) := ⟨by rw [List.length_append, HL.out]; rfl⟩; clear ho hb hg hat hv HX1 HW1 HK1 HL HOW HSZ HSY HLX; generalize xs ++ [x] = ys at *; obtain ⟨A7, c7, hs7⟩ := Kd.R_slice HX5.out; subst hs7
    go_wp2
    go_roundg (m - (i + 1))
    case measure => omega
    case rel => exact ⟨i + 1, ys, q1, by omega, by omega, by go_num, HL5, HT1, HX5, HR5, HK5⟩
  have he : i = m := by omega
  have hilz : decide ((i : Int) < (m : Int)) = false := by simp; omega
  have HPQ : Az (ib_ (zd_ b) b p = some (xs, q)) := ⟨by rw [HPP.out, HT.out, he, Nat.sub_self, xa_]; simp⟩; have HCL := aM_ (cloneP A6 c6 xs wr W.heap.size w0.heap.size HX.out (HK.out.size HW.out) HW.out.below.size (by rw [HL.out]; omega)); clear he HPP HT HL
  go_wp2_with fail
  refine HCL.out.mono ?_; rintro e w5 ⟨v5, rfl, hR5, hB5⟩; have HO := aM_ hR5; have HR6 : Az (RdAt w0 h A b c q w5) := ⟨⟨oa_ HW.out.blk hB5, fa_ HW.out.below hB5, HW.out.ge, HW.out.pos⟩⟩; have HK6 : Az (KeptR h W w5) := ⟨HK.out.trans (KeptR.below hB5)⟩; obtain ⟨A7, c7, hs7⟩ := Kd.R_slice hR5; subst hs7; clear hR5 hB5 HCL
  go_wp2
  go_ret
  rw [HPQ.out]; exact ⟨⟨_, rfl, HO.out⟩, HR6.out, HK6.out⟩
def pd_ (b : List Int) (p : Nat) : Option (S56 × Nat) := (pNum b p).bind fun z0 => (ib_ (pNum b) b z0.2).bind fun z1 => (pNum b z1.2).bind fun z2 => (ib_ (pNum b) b z2.2).bind fun z3 => (pNum b z3.2).bind fun z4 => some (⟨z0.1, z1.1, ⟨z2.1, z3.1⟩, z4.1⟩, z4.2)
theorem rule_rd (w0 : World) (h : Nat) (A : Option Addr) (b : List Int) (c p : Nat) (W : World) (hs : Src w0 A b c) (hr : RdAt w0 h A b c p W) :
  Calls Tryz.prog 88 #[.pointer (some ⟨h, 0, none⟩)] W fun e W' => Rd w0 h A b c W (VM k56 w0 W) e W' (pd_ b p) := by
 have HS := aM_ hs
 have HG : Az (h < W.heap.size) := ⟨za_ hr.blk⟩
 have hmf : ∀ (fn : Fn) (first cap : Array Value) (w : World), (Instr.makeFunc fn first cap).run Tryz.prog w = .ok (.func fn first cap) w := fun _ _ _ _ => rfl
 have HZ0 : Az (W.heap.size < (W.alloc (.cells #[.int .i64 0, .slice none 0 0, .int .i64 0, .slice none 0 0, .int .i64 0] 56)).heap.size) := ⟨by simp⟩
 have HR0 : Az (RdAt w0 h A b c p (W.alloc (.cells #[.int .i64 0, .slice none 0 0, .int .i64 0, .slice none 0 0, .int .i64 0] 56))) := ⟨⟨oa_ hr.blk (aa_ (Below.refl _ _) _), fa_ hr.below (aa_ (Below.refl _ _) _), hr.ge, hr.pos⟩⟩
 have HB0 : Az ((W.alloc (.cells #[.int .i64 0, .slice none 0 0, .int .i64 0, .slice none 0 0, .int .i64 0] 56)).heap[W.heap.size]? = some (.cells #[.int .i64 0, .slice none 0 0, .int .i64 0, .slice none 0 0, .int .i64 0] 56 (0, 0))) := ⟨ra_ W _⟩
 have HK0 : Az (KeptR h W (W.alloc (.cells #[.int .i64 0, .slice none 0 0, .int .i64 0, .slice none 0 0, .int .i64 0] 56))) := ⟨KeptR.below (aa_ (Below.refl _ _) _)⟩
 have HP0 : Az (pd_ b p = (pNum b p).bind fun z0 => (ib_ (pNum b) b z0.2).bind fun z1 => (pNum b z1.2).bind fun z2 => (ib_ (pNum b) b z2.2).bind fun z3 => (pNum b z3.2).bind fun z4 => some (⟨z0.1, z1.1, ⟨z2.1, z3.1⟩, z4.1⟩, z4.2)) := ⟨rfl⟩
 have HQ0 := aM_ (kc_ w0 h A b c p _ HS.out HR0.out)
 clear hs hr
 go_enter Tryz.func88, Tryz.ntmps88
 go_wp2_with fail
 refine HQ0.out.mono ?_
 intro e w1 hq
 cases hp : pNum b p with
 | none =>
  rw [hp] at hq; obtain ⟨⟨T, v, rfl⟩, hbl⟩ := hq
  exact ⟨rfl, by rw [HP0.out, hp]; exact ⟨⟨T, v, rfl⟩, hbl⟩⟩
 | some z =>
  obtain ⟨x0, q0⟩ := z; rw [hp] at hq; obtain ⟨⟨v, rfl, rfl⟩, hr1, hk1⟩ := hq; have HP1 : Az (pd_ b p = (ib_ (pNum b) b q0).bind fun z1 => (pNum b z1.2).bind fun z2 => (ib_ (pNum b) b z2.2).bind fun z3 => (pNum b z3.2).bind fun z4 => some (⟨x0, z1.1, ⟨z2.1, z3.1⟩, z4.1⟩, z4.2)) := ⟨by rw [HP0.out, hp]; rfl⟩; have HR1 := aM_ hr1; have HK1 := aM_ (HK0.out.trans hk1); have HZ1 := aM_ (Nat.lt_of_lt_of_le HZ0.out (hk1.size hr1)); have HB1 := aM_ (hk1 _ _ HB0.out (Nat.ne_of_gt HG.out)); have HQ1 := aM_ (jq_ w0 h A b c q0 w1 HS.out HR1.out); clear hr1 hk1 hp HQ0 HR0 HB0 HK0 HP0 HZ0
  go_wp2_with fail
  refine HQ1.out.mono ?_; intro e w2 hq
  cases hp : ib_ (pNum b) b q0 with
  | none =>
   rw [hp] at hq; obtain ⟨⟨T, v, rfl⟩, hbl⟩ := hq
   exact ⟨rfl, by rw [HP1.out, hp]; exact ⟨⟨T, v, rfl⟩, hbl⟩⟩
  | some z =>
   obtain ⟨x1, q1⟩ := z; rw [hp] at hq; obtain ⟨⟨v, rfl, hv1⟩, hr1, hk1⟩ := hq; obtain ⟨R1, k1, hs1⟩ := Kd.R_slice hv1; subst hs1; have HP2 : Az (pd_ b p = (pNum b q1).bind fun z2 => (ib_ (pNum b) b z2.2).bind fun z3 => (pNum b z3.2).bind fun z4 => some (⟨x0, x1, ⟨z2.1, z3.1⟩, z4.1⟩, z4.2)) := ⟨by rw [HP1.out, hp]; rfl⟩; have HR2 := aM_ hr1; have HK2 := aM_ (HK1.out.trans hk1); have HZ2 := aM_ (Nat.lt_of_lt_of_le HZ1.out (hk1.size hr1)); have HB2 := aM_ (hk1 _ _ HB1.out (Nat.ne_of_gt HG.out)); have HV1_2 := aM_ (Kd.R_mono hv1 (ok' := fun k => W.heap.size < k) (fun k hk => Nat.lt_of_lt_of_le HZ1.out hk)); clear hv1; have HQ2 := aM_ (kc_ w0 h A b c q1 w2 HS.out HR2.out); clear hr1 hk1 hp HQ1 HR1 HB1 HK1 HP1 HZ1
   go_wp2_with fail
   refine HQ2.out.mono ?_; intro e w3 hq
   cases hp : pNum b q1 with
   | none =>
    rw [hp] at hq; obtain ⟨⟨T, v, rfl⟩, hbl⟩ := hq
    exact ⟨rfl, by rw [HP2.out, hp]; exact ⟨⟨T, v, rfl⟩, hbl⟩⟩
   | some z =>
    obtain ⟨x2, q2⟩ := z; rw [hp] at hq; obtain ⟨⟨v, rfl, rfl⟩, hr1, hk1⟩ := hq; have HP3 : Az (pd_ b p = (ib_ (pNum b) b q2).bind fun z3 => (pNum b z3.2).bind fun z4 => some (⟨x0, x1, ⟨x2, z3.1⟩, z4.1⟩, z4.2)) := ⟨by rw [HP2.out, hp]; rfl⟩; have HR3 := aM_ hr1; have HK3 := aM_ (HK2.out.trans hk1); have HZ3 := aM_ (Nat.lt_of_lt_of_le HZ2.out (hk1.size hr1)); have HB3 := aM_ (hk1 _ _ HB2.out (Nat.ne_of_gt HG.out)); have HV1_3 := aM_ (ue_ HV1_2.out hk1 (fun k hk => by have := HG.out; omega)); clear HV1_2; have HQ3 := aM_ (jq_ w0 h A b c q2 w3 HS.out HR3.out); clear hr1 hk1 hp HQ2 HR2 HB2 HK2 HP2 HZ2
    go_wp2_with fail
    refine HQ3.out.mono ?_; intro e w4 hq
    cases hp : ib_ (pNum b) b q2 with
    | none =>
     rw [hp] at hq; obtain ⟨⟨T, v, rfl⟩, hbl⟩ := hq
     exact ⟨rfl, by rw [HP3.out, hp]; exact ⟨⟨T, v, rfl⟩, hbl⟩⟩
    | some z =>
     obtain ⟨x3, q3⟩ := z; rw [hp] at hq; obtain ⟨⟨v, rfl, hv3⟩, hr1, hk1⟩ := hq; obtain ⟨R3, k3, hs1⟩ := Kd.R_slice hv3; subst hs1; have HP4 : Az (pd_ b p = (pNum b q3).bind fun z4 => some (⟨x0, x1, ⟨x2, x3⟩, z4.1⟩, z4.2)) := ⟨by rw [HP3.out, hp]; rfl⟩; have HR4 := aM_ hr1; have HK4 := aM_ (HK3.out.trans hk1); have HZ4 := aM_ (Nat.lt_of_lt_of_le HZ3.out (hk1.size hr1)); have HB4 := aM_ (hk1 _ _ HB3.out (Nat.ne_of_gt HG.out)); have HV1_4 := aM_ (ue_ HV1_3.out hk1 (fun k hk => by have := HG.out; omega)); clear HV1_3; have HV3_4 := aM_ (Kd.R_mono hv3 (ok' := fun k => W.heap.size < k) (fun k hk => Nat.lt_of_lt_of_le HZ3.out hk)); clear hv3; have HQ4 := aM_ (kc_ w0 h A b c q3 w4 HS.out HR4.out); clear hr1 hk1 hp HQ3 HR3 HB3 HK3 HP3 HZ3
     go_wp2_with fail
     refine HQ4.out.mono ?_; intro e w5 hq
     cases hp : pNum b q3 with
     | none =>
      rw [hp] at hq; obtain ⟨⟨T, v, rfl⟩, hbl⟩ := hq
      exact ⟨rfl, by rw [HP4.out, hp]; exact ⟨⟨T, v, rfl⟩, hbl⟩⟩
     | some z =>
      obtain ⟨x4, q4⟩ := z; rw [hp] at hq; obtain ⟨⟨v, rfl, rfl⟩, hr1, hk1⟩ := hq; have HP5 : Az (pd_ b p = some (⟨x0, x1, ⟨x2, x3⟩, x4⟩, q4)) := ⟨by rw [HP4.out, hp]; rfl⟩; have HR5 := aM_ hr1; have HK5 := aM_ (HK4.out.trans hk1); have HZ5 := aM_ (Nat.lt_of_lt_of_le HZ4.out (hk1.size hr1)); have HB5 := aM_ (hk1 _ _ HB4.out (Nat.ne_of_gt HG.out)); have HV1_5 := aM_ (ue_ HV1_4.out hk1 (fun k hk => by have := HG.out; omega)); clear HV1_4; have HV3_5 := aM_ (ue_ HV3_4.out hk1 (fun k hk => by have := HG.out; omega)); clear HV3_4; clear hr1 hk1 hp HQ4 HR4 HB4 HK4 HP4 HZ4; have hf_0 := da_ HB5.out 0; have hc_0 := ba_ HB5.out 0; have hf_1 := da_ HB5.out 1; have hc_1 := ba_ HB5.out 1; have hf_2 := da_ HB5.out 2; have hc_2 := ba_ HB5.out 2; have hf_3 := da_ HB5.out 3; have hc_3 := ba_ HB5.out 3; have hf_4 := da_ HB5.out 4; have hc_4 := ba_ HB5.out 4; have hu1 := Tryz.underlying56; have hu2 := Tryz.underlying54
      go_wp2
      have hb1 : (((((w5.setCell ⟨W.heap.size, 0, none⟩ (.int .i64 x0)).setCell ⟨W.heap.size, 1, none⟩ (.slice R1 x1.length k1)).setCell ⟨W.heap.size, 2, none⟩ (.int .i64 x2)).setCell ⟨W.heap.size, 3, none⟩ (.slice R3 x3.length k3)).setCell ⟨W.heap.size, 4, none⟩ (.int .i64 x4)).heap[W.heap.size]? = some (.cells #[.int .i64 x0, .slice R1 x1.length k1, .int .i64 x2, .slice R3 x3.length k3, .int .i64 x4] 56 (0, 0)) := by simpa using (sa_ (sa_ (sa_ (sa_ (sa_ HB5.out 0 (.int .i64 x0)) 1 (.slice R1 x1.length k1)) 2 (.int .i64 x2)) 3 (.slice R3 x3.length k3)) 4 (.int .i64 x4))
      have hv1 := Kd.R_mono (Kd.R_far (Kd.R_far (Kd.R_far (Kd.R_far (Kd.R_far HV1_5.out (p := ⟨W.heap.size, 0, none⟩) (fun k hk => Nat.ne_of_gt hk) (.int .i64 x0)) (p := ⟨W.heap.size, 1, none⟩) (fun k hk => Nat.ne_of_gt hk) (.slice R1 x1.length k1)) (p := ⟨W.heap.size, 2, none⟩) (fun k hk => Nat.ne_of_gt hk) (.int .i64 x2)) (p := ⟨W.heap.size, 3, none⟩) (fun k hk => Nat.ne_of_gt hk) (.slice R3 x3.length k3)) (p := ⟨W.heap.size, 4, none⟩) (fun k hk => Nat.ne_of_gt hk) (.int .i64 x4)) (ok' := fun k => W.heap.size ≤ k) (fun k hk => Nat.le_of_lt hk); have hv3 := Kd.R_mono (Kd.R_far (Kd.R_far (Kd.R_far (Kd.R_far (Kd.R_far HV3_5.out (p := ⟨W.heap.size, 0, none⟩) (fun k hk => Nat.ne_of_gt hk) (.int .i64 x0)) (p := ⟨W.heap.size, 1, none⟩) (fun k hk => Nat.ne_of_gt hk) (.slice R1 x1.length k1)) (p := ⟨W.heap.size, 2, none⟩) (fun k hk => Nat.ne_of_gt hk) (.int .i64 x2)) (p := ⟨W.heap.size, 3, none⟩) (fun k hk => Nat.ne_of_gt hk) (.slice R3 x3.length k3)) (p := ⟨W.heap.size, 4, none⟩) (fun k hk => Nat.ne_of_gt hk) (.int .i64 x4)) (ok' := fun k => W.heap.size ≤ k) (fun k hk => Nat.le_of_lt hk); refine bodyPost_ret (results_cell_row rfl _ _ W.heap.size 56 #[.int .i64 x0, .slice R1 x1.length k1, .int .i64 x2, .slice R3 x3.length k3, .int .i64 x4] (0, 0) _ rfl hb1 Tryz.underlying56 rfl (by kernel_rfl)) rfl ?_; rw [HP5.out]; exact ⟨⟨_, rfl, _, rfl, ll_ _ _ _ (⟨x0, x1, ⟨x2, x3⟩, x4⟩ : S56) hv1 hv3⟩, (RdAt.box (RdAt.box (RdAt.box (RdAt.box (RdAt.box HR5.out HG.out _ _) HG.out _ _) HG.out _ _) HG.out _ _) HG.out _ _), (KeptR.box (KeptR.box (KeptR.box (KeptR.box (KeptR.box HK5.out (Nat.le_refl _) _ _) (Nat.le_refl _) _ _) (Nat.le_refl _) _ _) (Nat.le_refl _) _ _) (Nat.le_refl _) _ _)⟩
theorem manyR_rd (w0 : World) (h : Nat) (A : Option Addr) (b : List Int) (c p : Nat) (W : World) (hs : Src w0 A b c) (hr : RdAt w0 h A b c p W) :
  Calls Tryz.prog 87 #[.pointer (some ⟨h, 0, none⟩), .func (.func 88) #[.pointer (some ⟨h, 0, none⟩)] #[]] W fun e W' => Rd w0 h A b c W (VR k56 56 w0 W) e W' (ib_ (pd_ b) b p) := by
 have HS := aM_ hs
 have hlb := hs.len
 have HG : Az (h < W.heap.size) := ⟨za_ hr.blk⟩
 have HP0 : Az (ib_ (pd_ b) b p = (pNum b p).bind fun z => if z.1 < 0 ∨ ((b.length : Int) - z.2) / 8 < z.1 then none else xa_ (pd_ b) z.1.toNat z.2) := ⟨rfl⟩
 have HQ0 := aM_ (kc_ w0 h A b c p W hs hr)
 clear hs hr
 go_enter Tryz.func87, Tryz.ntmps87
 go_wp2_with fail
 refine HQ0.out.mono ?_
 intro e w1 hq
 cases hp : pNum b p with
 | none =>
  rw [hp] at hq; obtain ⟨⟨T, v, rfl⟩, hbl⟩ := hq
  exact ⟨rfl, by rw [HP0.out, hp]; exact ⟨⟨T, v, rfl⟩, hbl⟩⟩
 | some z =>
  obtain ⟨n, q0⟩ := z; rw [hp] at hq; obtain ⟨⟨v, rfl, rfl⟩, hr1, hk1⟩ := hq; have HP1 : Az (ib_ (pd_ b) b p = if n < 0 ∨ ((b.length : Int) - q0) / 8 < n then none else xa_ (pd_ b) n.toNat q0) := ⟨by rw [HP0.out, hp]; rfl⟩; have hpos := hr1.pos; have c0 : w1.cell? ⟨h, 0, none⟩ = some (.slice A b.length c) := ba_ hr1.blk 0; have c1 : w1.cell? ⟨h, 1, none⟩ = some (.int .i64 (q0 : Int)) := ba_ hr1.blk 1; have HR1 := aM_ hr1; have HK1 := aM_ hk1; have hw1 : wrap64 ((b.length : Int) - (q0 : Int)) = (b.length : Int) - (q0 : Int) := by rw [wrap64]; omega
  have hw2 : wrap64 (((b.length : Int) - (q0 : Int)) / 8) = ((b.length : Int) - (q0 : Int)) / 8 := by rw [wrap64]; omega
  have hdd : ((b.length : Int) - (q0 : Int)) / 8 ≤ 125000000000 := by omega
  clear hr1 hk1 hp HQ0 HP0
  by_cases hbad : n < 0 ∨ ((b.length : Int) - (q0 : Int)) / 8 < n
  ·have HPP : Az (ib_ (pd_ b) b p = none) := ⟨by rw [HP1.out, if_pos hbad]⟩
   by_cases hn0 : n < 0
   ·have e1 : decide (n < 0) = true := decide_eq_true hn0
    clear hbad hn0
    go_wp2
    go_quiet (fail)
    go_wp2
    refine ⟨rfl, ?_⟩; rw [HPP.out]; exact ⟨⟨_, _, rfl⟩, fa_ HR1.out.below (ca_ (Below.refl _ _) _)⟩
   have e1 : decide (n < 0) = false := decide_eq_false hn0; have e2 : decide (((b.length : Int) - (q0 : Int)) / 8 < n) = true := decide_eq_true (by omega); clear hbad hn0
   go_wp2
   go_quiet (fail)
   go_wp2
   refine ⟨rfl, ?_⟩; rw [HPP.out]; exact ⟨⟨_, _, rfl⟩, fa_ HR1.out.below (ca_ (Below.refl _ _) _)⟩
  obtain ⟨m, rfl⟩ : ∃ m : Nat, n = (m : Int) := ⟨n.toNat, by omega⟩; have hm : m ≤ 125000000000 := by omega
  have e1 : decide ((m : Int) < 0) = false := decide_eq_false (by omega); have e2 : decide (((b.length : Int) - (q0 : Int)) / 8 < (m : Int)) = false := decide_eq_false (by omega); have HPP : Az (ib_ (pd_ b) b p = xa_ (pd_ b) m q0) := ⟨by rw [HP1.out, if_neg hbad, Int.toNat_natCast]⟩; clear hbad HP1
  go_wp2
  go_quiet (fail)
  have HR2 : Az (RdAt w0 h A b c q0 (w1.drewN nq)) := ⟨⟨HR1.out.blk, ca_ HR1.out.below _, HR1.out.ge, HR1.out.pos⟩⟩; have HK2 : Az (KeptR h W (w1.drewN nq)) := ⟨HK1.out.trans (KeptR.below (ca_ (Below.refl _ _) _))⟩; have HR0 : Az (Kd.R k56 56 (w1.drewN nq) w0.heap.size (fun k => W.heap.size ≤ k) (.slice none 0 0) []) := ⟨Kd.R_nil _ _ _ _ _⟩; have HT0 : Az (xa_ (pd_ b) m q0 = (xa_ (pd_ b) (m - 0) q0).map fun y => ([] ++ y.1, y.2)) := ⟨by simp⟩; clear HR1 HK1 c0 c1; generalize w1.drewN nq = w2 at *
  go_wp2
  go_loopg [6, 33] m (fun gg s6 s33 wr => ∃ (i : Nat) (xs : List S56) (q : Nat), i ≤ m ∧ m - i ≤ gg ∧ s33 = .int .i64 i ∧ Az (xs.length = i) ∧ Az (xa_ (pd_ b) m q0 = (xa_ (pd_ b) (m - i) q).map fun y => (xs ++ y.1, y.2)) ∧ Az (Kd.R k56 56 wr w0.heap.size (fun k => W.heap.size ≤ k) s6 xs) ∧ Az (RdAt w0 h A b c q wr) ∧ Az (KeptR h W wr))
  case atStart => exact ⟨0, [], q0, by omega, by omega, rfl, ⟨rfl⟩, HT0, HR0, HR2, HK2⟩
  clear HR0 HR2 HK2 HT0; obtain ⟨i, xs, q, hi, hgg, rfl, HL, HT, HX, HW, HK⟩ := hrel; obtain ⟨A6, c6, hs6⟩ := Kd.R_slice HX.out; subst hs6
  by_cases hil : i < m
  ·have hilz : (i : Int) < (m : Int) := by omega
   have HQ := aM_ (rule_rd w0 h A b c q wr HS.out HW.out)
   go_wp2_with fail
   refine HQ.out.mono ?_; intro e w3 hq
   cases hp : pd_ b q with
   | none =>
    rw [hp] at hq; obtain ⟨⟨T, v, rfl⟩, hbl⟩ := hq
    exact ⟨rfl, by rw [HPP.out, HT.out, show m - i = (m - i - 1) + 1 from by omega, xa_, hp]; exact ⟨⟨T, v, rfl⟩, hbl⟩⟩
   | some z =>
    obtain ⟨x, q1⟩ := z; rw [hp] at hq; obtain ⟨⟨v, rfl, cs, rfl, hm⟩, hr1, hk1⟩ := hq; obtain ⟨u1, u3, rfl, gu1, gu3⟩ := jk_ hm; have hv := hm; clear gu1; clear gu3; clear hm
    have HT1 : Az (xa_ (pd_ b) m q0 = (xa_ (pd_ b) (m - (i + 1)) q1).map fun y => (xs ++ [x] ++ y.1, y.2)) := ⟨by
     rw [HT.out, show m - i = (m - (i + 1)) + 1 from by omega, xa_, hp]; simp only [Option.bind_some, Option.map_map]
     congr 1
     funext y
     simp⟩
    have HX1 := aM_ (ue_ HX.out hk1 (fun k hk => by have := HG.out; omega)); have HW1 := aM_ hr1; have HK1 := aM_ (HK.out.trans hk1); have HSZ := aM_ (HK.out.size HW.out); have HSY := aM_ (hk1.size hr1); have hlx : xs.length ≤ 125000000000 := by rw [HL.out]; omega
    have HLX := aM_ hlx; have HOW : Az (∀ k, (Value.slice A6 xs.length c6).ownBlock = some k → k < wr.heap.size) := ⟨fun k hk => Kd.R_own_lt HX.out hk⟩; clear hp hr1 hk1 HQ hlx HT HX HK
    go_wp2_with (at_builtin; go_loud (refine Kd.R_append k56 (w0 := w0) w0.heap.size rfl (.tmp 35) (.tmp 38) 41 56 (.agg #[.int .i64 0, .slice none 0 0, .int .i64 0, .slice none 0 0, .int .i64 0]) 72 rfl Tryz.underlying41 (by kernel_rfl) rfl (by show 0 < 5; decide) (by decide) (.slice A6 xs.length c6) xs x [.int .i64 x.f0, u1, .int .i64 x.f2.f0, u3, .int .i64 x.f3] (fun k => W.heap.size ≤ k) (fun k => wr.heap.size ≤ k) rfl rfl hv ?hok ?hf HX1.out ?hB ?hb ?hl ?_); (case hok => go_loud (exact (fun k hk => ⟨Nat.le_trans HSZ.out hk, fun e => by have := HOW.out k e.symm; omega⟩))); (case hf => go_loud (exact (fun k hk => by have := HSZ.out; have := HSY.out; omega))); (case hB => go_loud (exact HW1.out.below)); (case hb => go_loud (exact HW1.out.below.size)); (case hl => go_loud (have := HLX.out; omega)); intro v4 w4 ho hb hg hat)
    have HR5 : Az (RdAt w0 h A b c q1 w4) := ⟨⟨gb_ HW1.out.blk hg (fun e => by have := HX1.out.1 _ e.symm; have := HG.out; omega), hb, HW1.out.ge, HW1.out.pos⟩⟩; have HK5 : Az (KeptR h W w4) := ⟨fun k o hko hne => gb_ (HK1.out k o hko hne) hg (fun e => by have := HX1.out.1 _ e.symm; have := za_ hko; omega)⟩; have HX5 := aM_ ho; have HL5 : Az ((xs ++ [x]).length = i + 1) := ⟨by rw [List.length_append, HL.out]; rfl⟩; clear ho hb hg hat hv HX1 HW1 HK1 HL HOW HSZ HSY HLX; generalize xs ++ [x] = ys at *; obtain ⟨A7, c7, hs7⟩ := Kd.R_slice HX5.out; subst hs7
    go_wp2
    go_roundg (m - (i + 1))
    case measure => omega
    case rel => exact ⟨i + 1, ys, q1, by omega, by omega, by go_num, HL5, HT1, HX5, HR5, HK5⟩
  have he : i = m := by omega
  have hilz : decide ((i : Int) < (m : Int)) = false := by simp; omega
  have HPQ : Az (ib_ (pd_ b) b p = some (xs, q)) := ⟨by rw [HPP.out, HT.out, he, Nat.sub_self, xa_]; simp⟩; have HCL := aM_ (cloneR A6 c6 xs wr W.heap.size w0.heap.size HX.out (HK.out.size HW.out) HW.out.below.size (by rw [HL.out]; omega)); clear he HPP HT HL
  go_wp2_with fail
  refine HCL.out.mono ?_; rintro e w5 ⟨v5, rfl, hR5, hB5⟩; have HO := aM_ hR5; have HR6 : Az (RdAt w0 h A b c q w5) := ⟨⟨oa_ HW.out.blk hB5, fa_ HW.out.below hB5, HW.out.ge, HW.out.pos⟩⟩; have HK6 : Az (KeptR h W w5) := ⟨HK.out.trans (KeptR.below hB5)⟩; obtain ⟨A7, c7, hs7⟩ := Kd.R_slice hR5; subst hs7; clear hR5 hB5 HCL
  go_wp2
  go_ret
  rw [HPQ.out]; exact ⟨⟨_, rfl, HO.out⟩, HR6.out, HK6.out⟩
def bd_ (b : List Int) (p : Nat) : Option (S52 × Nat) := (pNum b p).bind fun z0 => (ib_ (zd_ b) b z0.2).bind fun z1 => some (⟨z0.1, z1.1⟩, z1.2)
theorem style_rd (w0 : World) (h : Nat) (A : Option Addr) (b : List Int) (c p : Nat) (W : World) (hs : Src w0 A b c) (hr : RdAt w0 h A b c p W) :
  Calls Tryz.prog 90 #[.pointer (some ⟨h, 0, none⟩)] W fun e W' => Rd w0 h A b c W (VM k52 w0 W) e W' (bd_ b p) := by
 have HS := aM_ hs
 have HG : Az (h < W.heap.size) := ⟨za_ hr.blk⟩
 have hmf : ∀ (fn : Fn) (first cap : Array Value) (w : World), (Instr.makeFunc fn first cap).run Tryz.prog w = .ok (.func fn first cap) w := fun _ _ _ _ => rfl
 have HZ0 : Az (W.heap.size < (W.alloc (.cells #[.int .i64 0, .slice none 0 0] 52)).heap.size) := ⟨by simp⟩
 have HR0 : Az (RdAt w0 h A b c p (W.alloc (.cells #[.int .i64 0, .slice none 0 0] 52))) := ⟨⟨oa_ hr.blk (aa_ (Below.refl _ _) _), fa_ hr.below (aa_ (Below.refl _ _) _), hr.ge, hr.pos⟩⟩
 have HB0 : Az ((W.alloc (.cells #[.int .i64 0, .slice none 0 0] 52)).heap[W.heap.size]? = some (.cells #[.int .i64 0, .slice none 0 0] 52 (0, 0))) := ⟨ra_ W _⟩
 have HK0 : Az (KeptR h W (W.alloc (.cells #[.int .i64 0, .slice none 0 0] 52))) := ⟨KeptR.below (aa_ (Below.refl _ _) _)⟩
 have HP0 : Az (bd_ b p = (pNum b p).bind fun z0 => (ib_ (zd_ b) b z0.2).bind fun z1 => some (⟨z0.1, z1.1⟩, z1.2)) := ⟨rfl⟩
 have HQ0 := aM_ (kc_ w0 h A b c p _ HS.out HR0.out)
 clear hs hr
 go_enter Tryz.func90, Tryz.ntmps90
 go_wp2_with fail
 refine HQ0.out.mono ?_
 intro e w1 hq
 cases hp : pNum b p with
 | none =>
  rw [hp] at hq; obtain ⟨⟨T, v, rfl⟩, hbl⟩ := hq
  exact ⟨rfl, by rw [HP0.out, hp]; exact ⟨⟨T, v, rfl⟩, hbl⟩⟩
 | some z =>
  obtain ⟨x0, q0⟩ := z; rw [hp] at hq; obtain ⟨⟨v, rfl, rfl⟩, hr1, hk1⟩ := hq; have HP1 : Az (bd_ b p = (ib_ (zd_ b) b q0).bind fun z1 => some (⟨x0, z1.1⟩, z1.2)) := ⟨by rw [HP0.out, hp]; rfl⟩; have HR1 := aM_ hr1; have HK1 := aM_ (HK0.out.trans hk1); have HZ1 := aM_ (Nat.lt_of_lt_of_le HZ0.out (hk1.size hr1)); have HB1 := aM_ (hk1 _ _ HB0.out (Nat.ne_of_gt HG.out)); have HQ1 := aM_ (manyP_rd w0 h A b c q0 w1 HS.out HR1.out); clear hr1 hk1 hp HQ0 HR0 HB0 HK0 HP0 HZ0
  go_wp2_with fail
  refine HQ1.out.mono ?_; intro e w2 hq
  cases hp : ib_ (zd_ b) b q0 with
  | none =>
   rw [hp] at hq; obtain ⟨⟨T, v, rfl⟩, hbl⟩ := hq
   exact ⟨rfl, by rw [HP1.out, hp]; exact ⟨⟨T, v, rfl⟩, hbl⟩⟩
  | some z =>
   obtain ⟨x1, q1⟩ := z; rw [hp] at hq; obtain ⟨⟨v, rfl, hv1⟩, hr1, hk1⟩ := hq; obtain ⟨R1, k1, hs1⟩ := Kd.R_slice hv1; subst hs1; have HP2 : Az (bd_ b p = some (⟨x0, x1⟩, q1)) := ⟨by rw [HP1.out, hp]; rfl⟩; have HR2 := aM_ hr1; have HK2 := aM_ (HK1.out.trans hk1); have HZ2 := aM_ (Nat.lt_of_lt_of_le HZ1.out (hk1.size hr1)); have HB2 := aM_ (hk1 _ _ HB1.out (Nat.ne_of_gt HG.out)); have HV1_2 := aM_ (Kd.R_mono hv1 (ok' := fun k => W.heap.size < k) (fun k hk => Nat.lt_of_lt_of_le HZ1.out hk)); clear hv1; clear hr1 hk1 hp HQ1 HR1 HB1 HK1 HP1 HZ1; have hf_0 := da_ HB2.out 0; have hc_0 := ba_ HB2.out 0; have hf_1 := da_ HB2.out 1; have hc_1 := ba_ HB2.out 1; have hu1 := Tryz.underlying52
   go_wp2
   have hb1 : ((w2.setCell ⟨W.heap.size, 0, none⟩ (.int .i64 x0)).setCell ⟨W.heap.size, 1, none⟩ (.slice R1 x1.length k1)).heap[W.heap.size]? = some (.cells #[.int .i64 x0, .slice R1 x1.length k1] 52 (0, 0)) := by simpa using (sa_ (sa_ HB2.out 0 (.int .i64 x0)) 1 (.slice R1 x1.length k1))
   have hv1 := Kd.R_mono (Kd.R_far (Kd.R_far HV1_2.out (p := ⟨W.heap.size, 0, none⟩) (fun k hk => Nat.ne_of_gt hk) (.int .i64 x0)) (p := ⟨W.heap.size, 1, none⟩) (fun k hk => Nat.ne_of_gt hk) (.slice R1 x1.length k1)) (ok' := fun k => W.heap.size ≤ k) (fun k hk => Nat.le_of_lt hk); refine bodyPost_ret (results_cell_row rfl _ _ W.heap.size 52 #[.int .i64 x0, .slice R1 x1.length k1] (0, 0) _ rfl hb1 Tryz.underlying52 rfl (by kernel_rfl)) rfl ?_; rw [HP2.out]; exact ⟨⟨_, rfl, _, rfl, ap_ _ _ _ (⟨x0, x1⟩ : S52) hv1⟩, (RdAt.box (RdAt.box HR2.out HG.out _ _) HG.out _ _), (KeptR.box (KeptR.box HK2.out (Nat.le_refl _) _ _) (Nat.le_refl _) _ _)⟩
theorem manyS_rd (w0 : World) (h : Nat) (A : Option Addr) (b : List Int) (c p : Nat) (W : World) (hs : Src w0 A b c) (hr : RdAt w0 h A b c p W) :
  Calls Tryz.prog 89 #[.pointer (some ⟨h, 0, none⟩), .func (.func 90) #[.pointer (some ⟨h, 0, none⟩)] #[]] W fun e W' => Rd w0 h A b c W (VR k52 52 w0 W) e W' (ib_ (bd_ b) b p) := by
 have HS := aM_ hs
 have hlb := hs.len
 have HG : Az (h < W.heap.size) := ⟨za_ hr.blk⟩
 have HP0 : Az (ib_ (bd_ b) b p = (pNum b p).bind fun z => if z.1 < 0 ∨ ((b.length : Int) - z.2) / 8 < z.1 then none else xa_ (bd_ b) z.1.toNat z.2) := ⟨rfl⟩
 have HQ0 := aM_ (kc_ w0 h A b c p W hs hr)
 clear hs hr
 go_enter Tryz.func89, Tryz.ntmps89
 go_wp2_with fail
 refine HQ0.out.mono ?_
 intro e w1 hq
 cases hp : pNum b p with
 | none =>
  rw [hp] at hq; obtain ⟨⟨T, v, rfl⟩, hbl⟩ := hq
  exact ⟨rfl, by rw [HP0.out, hp]; exact ⟨⟨T, v, rfl⟩, hbl⟩⟩
 | some z =>
  obtain ⟨n, q0⟩ := z; rw [hp] at hq; obtain ⟨⟨v, rfl, rfl⟩, hr1, hk1⟩ := hq; have HP1 : Az (ib_ (bd_ b) b p = if n < 0 ∨ ((b.length : Int) - q0) / 8 < n then none else xa_ (bd_ b) n.toNat q0) := ⟨by rw [HP0.out, hp]; rfl⟩; have hpos := hr1.pos; have c0 : w1.cell? ⟨h, 0, none⟩ = some (.slice A b.length c) := ba_ hr1.blk 0; have c1 : w1.cell? ⟨h, 1, none⟩ = some (.int .i64 (q0 : Int)) := ba_ hr1.blk 1; have HR1 := aM_ hr1; have HK1 := aM_ hk1; have hw1 : wrap64 ((b.length : Int) - (q0 : Int)) = (b.length : Int) - (q0 : Int) := by rw [wrap64]; omega
  have hw2 : wrap64 (((b.length : Int) - (q0 : Int)) / 8) = ((b.length : Int) - (q0 : Int)) / 8 := by rw [wrap64]; omega
  have hdd : ((b.length : Int) - (q0 : Int)) / 8 ≤ 125000000000 := by omega
  clear hr1 hk1 hp HQ0 HP0
  by_cases hbad : n < 0 ∨ ((b.length : Int) - (q0 : Int)) / 8 < n
  ·have HPP : Az (ib_ (bd_ b) b p = none) := ⟨by rw [HP1.out, if_pos hbad]⟩
   by_cases hn0 : n < 0
   ·have e1 : decide (n < 0) = true := decide_eq_true hn0
    clear hbad hn0
    go_wp2
    go_quiet (fail)
    go_wp2
    refine ⟨rfl, ?_⟩; rw [HPP.out]; exact ⟨⟨_, _, rfl⟩, fa_ HR1.out.below (ca_ (Below.refl _ _) _)⟩
   have e1 : decide (n < 0) = false := decide_eq_false hn0; have e2 : decide (((b.length : Int) - (q0 : Int)) / 8 < n) = true := decide_eq_true (by omega); clear hbad hn0
   go_wp2
   go_quiet (fail)
   go_wp2
   refine ⟨rfl, ?_⟩; rw [HPP.out]; exact ⟨⟨_, _, rfl⟩, fa_ HR1.out.below (ca_ (Below.refl _ _) _)⟩
  obtain ⟨m, rfl⟩ : ∃ m : Nat, n = (m : Int) := ⟨n.toNat, by omega⟩; have hm : m ≤ 125000000000 := by omega
  have e1 : decide ((m : Int) < 0) = false := decide_eq_false (by omega); have e2 : decide (((b.length : Int) - (q0 : Int)) / 8 < (m : Int)) = false := decide_eq_false (by omega); have HPP : Az (ib_ (bd_ b) b p = xa_ (bd_ b) m q0) := ⟨by rw [HP1.out, if_neg hbad, Int.toNat_natCast]⟩; clear hbad HP1
  go_wp2
  go_quiet (fail)
  have HR2 : Az (RdAt w0 h A b c q0 (w1.drewN nq)) := ⟨⟨HR1.out.blk, ca_ HR1.out.below _, HR1.out.ge, HR1.out.pos⟩⟩; have HK2 : Az (KeptR h W (w1.drewN nq)) := ⟨HK1.out.trans (KeptR.below (ca_ (Below.refl _ _) _))⟩; have HR0 : Az (Kd.R k52 52 (w1.drewN nq) w0.heap.size (fun k => W.heap.size ≤ k) (.slice none 0 0) []) := ⟨Kd.R_nil _ _ _ _ _⟩; have HT0 : Az (xa_ (bd_ b) m q0 = (xa_ (bd_ b) (m - 0) q0).map fun y => ([] ++ y.1, y.2)) := ⟨by simp⟩; clear HR1 HK1 c0 c1; generalize w1.drewN nq = w2 at *
  go_wp2
  go_loopg [6, 33] m (fun gg s6 s33 wr => ∃ (i : Nat) (xs : List S52) (q : Nat), i ≤ m ∧ m - i ≤ gg ∧ s33 = .int .i64 i ∧ Az (xs.length = i) ∧ Az (xa_ (bd_ b) m q0 = (xa_ (bd_ b) (m - i) q).map fun y => (xs ++ y.1, y.2)) ∧ Az (Kd.R k52 52 wr w0.heap.size (fun k => W.heap.size ≤ k) s6 xs) ∧ Az (RdAt w0 h A b c q wr) ∧ Az (KeptR h W wr))
  case atStart => exact ⟨0, [], q0, by omega, by omega, rfl, ⟨rfl⟩, HT0, HR0, HR2, HK2⟩
  clear HR0 HR2 HK2 HT0; obtain ⟨i, xs, q, hi, hgg, rfl, HL, HT, HX, HW, HK⟩ := hrel; obtain ⟨A6, c6, hs6⟩ := Kd.R_slice HX.out; subst hs6
  by_cases hil : i < m
  ·have hilz : (i : Int) < (m : Int) := by omega
   have HQ := aM_ (style_rd w0 h A b c q wr HS.out HW.out)
   go_wp2_with fail
   refine HQ.out.mono ?_; intro e w3 hq
   cases hp : bd_ b q with
   | none =>
    rw [hp] at hq; obtain ⟨⟨T, v, rfl⟩, hbl⟩ := hq
    exact ⟨rfl, by rw [HPP.out, HT.out, show m - i = (m - i - 1) + 1 from by omega, xa_, hp]; exact ⟨⟨T, v, rfl⟩, hbl⟩⟩
   | some z =>
    obtain ⟨x, q1⟩ := z; rw [hp] at hq; obtain ⟨⟨v, rfl, cs, rfl, hm⟩, hr1, hk1⟩ := hq; obtain ⟨u1, rfl, gu1⟩ := xn_ hm; have hv := hm; clear gu1; clear hm
    have HT1 : Az (xa_ (bd_ b) m q0 = (xa_ (bd_ b) (m - (i + 1)) q1).map fun y => (xs ++ [x] ++ y.1, y.2)) := ⟨by
     rw [HT.out, show m - i = (m - (i + 1)) + 1 from by omega, xa_, hp]; simp only [Option.bind_some, Option.map_map]
     congr 1
     funext y
     simp⟩
    have HX1 := aM_ (ue_ HX.out hk1 (fun k hk => by have := HG.out; omega)); have HW1 := aM_ hr1; have HK1 := aM_ (HK.out.trans hk1); have HSZ := aM_ (HK.out.size HW.out); have HSY := aM_ (hk1.size hr1); have hlx : xs.length ≤ 125000000000 := by rw [HL.out]; omega
    have HLX := aM_ hlx; have HOW : Az (∀ k, (Value.slice A6 xs.length c6).ownBlock = some k → k < wr.heap.size) := ⟨fun k hk => Kd.R_own_lt HX.out hk⟩; clear hp hr1 hk1 HQ hlx HT HX HK
    go_wp2_with (at_builtin; go_loud (refine Kd.R_append k52 (w0 := w0) w0.heap.size rfl (.tmp 35) (.tmp 38) 42 52 (.agg #[.int .i64 0, .slice none 0 0]) 32 rfl Tryz.underlying42 (by kernel_rfl) rfl (by show 0 < 2; decide) (by decide) (.slice A6 xs.length c6) xs x [.int .i64 x.f0, u1] (fun k => W.heap.size ≤ k) (fun k => wr.heap.size ≤ k) rfl rfl hv ?hok ?hf HX1.out ?hB ?hb ?hl ?_); (case hok => go_loud (exact (fun k hk => ⟨Nat.le_trans HSZ.out hk, fun e => by have := HOW.out k e.symm; omega⟩))); (case hf => go_loud (exact (fun k hk => by have := HSZ.out; have := HSY.out; omega))); (case hB => go_loud (exact HW1.out.below)); (case hb => go_loud (exact HW1.out.below.size)); (case hl => go_loud (have := HLX.out; omega)); intro v4 w4 ho hb hg hat)
    have HR5 : Az (RdAt w0 h A b c q1 w4) := ⟨⟨gb_ HW1.out.blk hg (fun e => by have := HX1.out.1 _ e.symm; have := HG.out; omega), hb, HW1.out.ge, HW1.out.pos⟩⟩; have HK5 : Az (KeptR h W w4) := ⟨fun k o hko hne => gb_ (HK1.out k o hko hne) hg (fun e => by have := HX1.out.1 _ e.symm; have := za_ hko; omega)⟩; have HX5 := aM_ ho; have HL5 : Az ((xs ++ [x]).length = i + 1) := ⟨by rw [List.length_append, HL.out]; rfl⟩; clear ho hb hg hat hv HX1 HW1 HK1 HL HOW HSZ HSY HLX; generalize xs ++ [x] = ys at *; obtain ⟨A7, c7, hs7⟩ := Kd.R_slice HX5.out; subst hs7
    go_wp2
    go_roundg (m - (i + 1))
    case measure => omega
    case rel => exact ⟨i + 1, ys, q1, by omega, by omega, by go_num, HL5, HT1, HX5, HR5, HK5⟩
  have he : i = m := by omega
  have hilz : decide ((i : Int) < (m : Int)) = false := by simp; omega
  have HPQ : Az (ib_ (bd_ b) b p = some (xs, q)) := ⟨by rw [HPP.out, HT.out, he, Nat.sub_self, xa_]; simp⟩; have HCL := aM_ (vs_ A6 c6 xs wr W.heap.size w0.heap.size HX.out (HK.out.size HW.out) HW.out.below.size (by rw [HL.out]; omega)); clear he HPP HT HL
  go_wp2_with fail
  refine HCL.out.mono ?_; rintro e w5 ⟨v5, rfl, hR5, hB5⟩; have HO := aM_ hR5; have HR6 : Az (RdAt w0 h A b c q w5) := ⟨⟨oa_ HW.out.blk hB5, fa_ HW.out.below hB5, HW.out.ge, HW.out.pos⟩⟩; have HK6 : Az (KeptR h W w5) := ⟨HK.out.trans (KeptR.below hB5)⟩; obtain ⟨A7, c7, hs7⟩ := Kd.R_slice hR5; subst hs7; clear hR5 hB5 HCL
  go_wp2
  go_ret
  rw [HPQ.out]; exact ⟨⟨_, rfl, HO.out⟩, HR6.out, HK6.out⟩
def pLoc (b : List Int) (p : Nat) : Option (S44 × Nat) := (pg_ b p).bind fun z0 => (pNum b z0.2).bind fun z1 => (pNum b z1.2).bind fun z2 => (ib_ (pEnt b) b z2.2).bind fun z3 => (ib_ (pd_ b) b z3.2).bind fun z4 => (ib_ (bd_ b) b z4.2).bind fun z5 => some (⟨z0.1, z1.1, z2.1, z3.1, z4.1, z5.1⟩, z5.2)
theorem uu_ (w0 : World) (h : Nat) (A : Option Addr) (b : List Int) (c p : Nat) (W : World) (hs : Src w0 A b c) (hr : RdAt w0 h A b c p W) :
  Calls Tryz.prog 38 #[.pointer (some ⟨h, 0, none⟩)] W fun e W' => Rd w0 h A b c W (VM k44 w0 W) e W' (pLoc b p) := by
 have HS := aM_ hs
 have HG : Az (h < W.heap.size) := ⟨za_ hr.blk⟩
 have hmf : ∀ (fn : Fn) (first cap : Array Value) (w : World), (Instr.makeFunc fn first cap).run Tryz.prog w = .ok (.func fn first cap) w := fun _ _ _ _ => rfl
 have HZ0 : Az (W.heap.size < (W.alloc (.cells #[.string ⟨#[]⟩, .int .i64 0, .int .i64 0, .slice none 0 0, .slice none 0 0, .slice none 0 0] 44)).heap.size) := ⟨by simp⟩
 have HR0 : Az (RdAt w0 h A b c p (W.alloc (.cells #[.string ⟨#[]⟩, .int .i64 0, .int .i64 0, .slice none 0 0, .slice none 0 0, .slice none 0 0] 44))) := ⟨⟨oa_ hr.blk (aa_ (Below.refl _ _) _), fa_ hr.below (aa_ (Below.refl _ _) _), hr.ge, hr.pos⟩⟩
 have HB0 : Az ((W.alloc (.cells #[.string ⟨#[]⟩, .int .i64 0, .int .i64 0, .slice none 0 0, .slice none 0 0, .slice none 0 0] 44)).heap[W.heap.size]? = some (.cells #[.string ⟨#[]⟩, .int .i64 0, .int .i64 0, .slice none 0 0, .slice none 0 0, .slice none 0 0] 44 (0, 0))) := ⟨ra_ W _⟩
 have HK0 : Az (KeptR h W (W.alloc (.cells #[.string ⟨#[]⟩, .int .i64 0, .int .i64 0, .slice none 0 0, .slice none 0 0, .slice none 0 0] 44))) := ⟨KeptR.below (aa_ (Below.refl _ _) _)⟩
 have HP0 : Az (pLoc b p = (pg_ b p).bind fun z0 => (pNum b z0.2).bind fun z1 => (pNum b z1.2).bind fun z2 => (ib_ (pEnt b) b z2.2).bind fun z3 => (ib_ (pd_ b) b z3.2).bind fun z4 => (ib_ (bd_ b) b z4.2).bind fun z5 => some (⟨z0.1, z1.1, z2.1, z3.1, z4.1, z5.1⟩, z5.2)) := ⟨rfl⟩
 have HQ0 := aM_ (ho_ w0 h A b c p _ HS.out HR0.out)
 clear hs hr
 go_enter Tryz.func38, Tryz.ntmps38
 go_wp2_with fail
 refine HQ0.out.mono ?_
 intro e w1 hq
 cases hp : pg_ b p with
 | none =>
  rw [hp] at hq; obtain ⟨⟨T, v, rfl⟩, hbl⟩ := hq
  exact ⟨rfl, by rw [HP0.out, hp]; exact ⟨⟨T, v, rfl⟩, hbl⟩⟩
 | some z =>
  obtain ⟨x0, q0⟩ := z; rw [hp] at hq; obtain ⟨⟨v, rfl, rfl⟩, hr1, hk1⟩ := hq; have HP1 : Az (pLoc b p = (pNum b q0).bind fun z1 => (pNum b z1.2).bind fun z2 => (ib_ (pEnt b) b z2.2).bind fun z3 => (ib_ (pd_ b) b z3.2).bind fun z4 => (ib_ (bd_ b) b z4.2).bind fun z5 => some (⟨x0, z1.1, z2.1, z3.1, z4.1, z5.1⟩, z5.2)) := ⟨by rw [HP0.out, hp]; rfl⟩; have HR1 := aM_ hr1; have HK1 := aM_ (HK0.out.trans hk1); have HZ1 := aM_ (Nat.lt_of_lt_of_le HZ0.out (hk1.size hr1)); have HB1 := aM_ (hk1 _ _ HB0.out (Nat.ne_of_gt HG.out)); have HQ1 := aM_ (kc_ w0 h A b c q0 w1 HS.out HR1.out); clear hr1 hk1 hp HQ0 HR0 HB0 HK0 HP0 HZ0
  go_wp2_with fail
  refine HQ1.out.mono ?_; intro e w2 hq
  cases hp : pNum b q0 with
  | none =>
   rw [hp] at hq; obtain ⟨⟨T, v, rfl⟩, hbl⟩ := hq
   exact ⟨rfl, by rw [HP1.out, hp]; exact ⟨⟨T, v, rfl⟩, hbl⟩⟩
  | some z =>
   obtain ⟨x1, q1⟩ := z; rw [hp] at hq; obtain ⟨⟨v, rfl, rfl⟩, hr1, hk1⟩ := hq; have HP2 : Az (pLoc b p = (pNum b q1).bind fun z2 => (ib_ (pEnt b) b z2.2).bind fun z3 => (ib_ (pd_ b) b z3.2).bind fun z4 => (ib_ (bd_ b) b z4.2).bind fun z5 => some (⟨x0, x1, z2.1, z3.1, z4.1, z5.1⟩, z5.2)) := ⟨by rw [HP1.out, hp]; rfl⟩; have HR2 := aM_ hr1; have HK2 := aM_ (HK1.out.trans hk1); have HZ2 := aM_ (Nat.lt_of_lt_of_le HZ1.out (hk1.size hr1)); have HB2 := aM_ (hk1 _ _ HB1.out (Nat.ne_of_gt HG.out)); have HQ2 := aM_ (kc_ w0 h A b c q1 w2 HS.out HR2.out); clear hr1 hk1 hp HQ1 HR1 HB1 HK1 HP1 HZ1
   go_wp2_with fail
   refine HQ2.out.mono ?_; intro e w3 hq
   cases hp : pNum b q1 with
   | none =>
    rw [hp] at hq; obtain ⟨⟨T, v, rfl⟩, hbl⟩ := hq
    exact ⟨rfl, by rw [HP2.out, hp]; exact ⟨⟨T, v, rfl⟩, hbl⟩⟩
   | some z =>
    obtain ⟨x2, q2⟩ := z; rw [hp] at hq; obtain ⟨⟨v, rfl, rfl⟩, hr1, hk1⟩ := hq; have HP3 : Az (pLoc b p = (ib_ (pEnt b) b q2).bind fun z3 => (ib_ (pd_ b) b z3.2).bind fun z4 => (ib_ (bd_ b) b z4.2).bind fun z5 => some (⟨x0, x1, x2, z3.1, z4.1, z5.1⟩, z5.2)) := ⟨by rw [HP2.out, hp]; rfl⟩; have HR3 := aM_ hr1; have HK3 := aM_ (HK2.out.trans hk1); have HZ3 := aM_ (Nat.lt_of_lt_of_le HZ2.out (hk1.size hr1)); have HB3 := aM_ (hk1 _ _ HB2.out (Nat.ne_of_gt HG.out)); have HQ3 := aM_ (manyE_rd w0 h A b c q2 w3 HS.out HR3.out); clear hr1 hk1 hp HQ2 HR2 HB2 HK2 HP2 HZ2
    go_wp2_with fail
    refine HQ3.out.mono ?_; intro e w4 hq
    cases hp : ib_ (pEnt b) b q2 with
    | none =>
     rw [hp] at hq; obtain ⟨⟨T, v, rfl⟩, hbl⟩ := hq
     exact ⟨rfl, by rw [HP3.out, hp]; exact ⟨⟨T, v, rfl⟩, hbl⟩⟩
    | some z =>
     obtain ⟨x3, q3⟩ := z; rw [hp] at hq; obtain ⟨⟨v, rfl, hv3⟩, hr1, hk1⟩ := hq; obtain ⟨R3, k3, hs1⟩ := Kd.R_slice hv3; subst hs1; have HP4 : Az (pLoc b p = (ib_ (pd_ b) b q3).bind fun z4 => (ib_ (bd_ b) b z4.2).bind fun z5 => some (⟨x0, x1, x2, x3, z4.1, z5.1⟩, z5.2)) := ⟨by rw [HP3.out, hp]; rfl⟩; have HR4 := aM_ hr1; have HK4 := aM_ (HK3.out.trans hk1); have HZ4 := aM_ (Nat.lt_of_lt_of_le HZ3.out (hk1.size hr1)); have HB4 := aM_ (hk1 _ _ HB3.out (Nat.ne_of_gt HG.out)); have HV3_4 := aM_ (Kd.R_mono hv3 (ok' := fun k => W.heap.size < k) (fun k hk => Nat.lt_of_lt_of_le HZ3.out hk)); clear hv3; have HQ4 := aM_ (manyR_rd w0 h A b c q3 w4 HS.out HR4.out); clear hr1 hk1 hp HQ3 HR3 HB3 HK3 HP3 HZ3
     go_wp2_with fail
     refine HQ4.out.mono ?_; intro e w5 hq
     cases hp : ib_ (pd_ b) b q3 with
     | none =>
      rw [hp] at hq; obtain ⟨⟨T, v, rfl⟩, hbl⟩ := hq
      exact ⟨rfl, by rw [HP4.out, hp]; exact ⟨⟨T, v, rfl⟩, hbl⟩⟩
     | some z =>
      obtain ⟨x4, q4⟩ := z; rw [hp] at hq; obtain ⟨⟨v, rfl, hv4⟩, hr1, hk1⟩ := hq; obtain ⟨R4, k4, hs1⟩ := Kd.R_slice hv4; subst hs1; have HP5 : Az (pLoc b p = (ib_ (bd_ b) b q4).bind fun z5 => some (⟨x0, x1, x2, x3, x4, z5.1⟩, z5.2)) := ⟨by rw [HP4.out, hp]; rfl⟩; have HR5 := aM_ hr1; have HK5 := aM_ (HK4.out.trans hk1); have HZ5 := aM_ (Nat.lt_of_lt_of_le HZ4.out (hk1.size hr1)); have HB5 := aM_ (hk1 _ _ HB4.out (Nat.ne_of_gt HG.out)); have HV3_5 := aM_ (ue_ HV3_4.out hk1 (fun k hk => by have := HG.out; omega)); clear HV3_4; have HV4_5 := aM_ (Kd.R_mono hv4 (ok' := fun k => W.heap.size < k) (fun k hk => Nat.lt_of_lt_of_le HZ4.out hk)); clear hv4; have HQ5 := aM_ (manyS_rd w0 h A b c q4 w5 HS.out HR5.out); clear hr1 hk1 hp HQ4 HR4 HB4 HK4 HP4 HZ4
      go_wp2_with fail
      refine HQ5.out.mono ?_; intro e w6 hq
      cases hp : ib_ (bd_ b) b q4 with
      | none =>
       rw [hp] at hq; obtain ⟨⟨T, v, rfl⟩, hbl⟩ := hq
       exact ⟨rfl, by rw [HP5.out, hp]; exact ⟨⟨T, v, rfl⟩, hbl⟩⟩
      | some z =>
       obtain ⟨x5, q5⟩ := z; rw [hp] at hq; obtain ⟨⟨v, rfl, hv5⟩, hr1, hk1⟩ := hq; obtain ⟨R5, k5, hs1⟩ := Kd.R_slice hv5; subst hs1; have HP6 : Az (pLoc b p = some (⟨x0, x1, x2, x3, x4, x5⟩, q5)) := ⟨by rw [HP5.out, hp]; rfl⟩; have HR6 := aM_ hr1; have HK6 := aM_ (HK5.out.trans hk1); have HZ6 := aM_ (Nat.lt_of_lt_of_le HZ5.out (hk1.size hr1)); have HB6 := aM_ (hk1 _ _ HB5.out (Nat.ne_of_gt HG.out)); have HV3_6 := aM_ (ue_ HV3_5.out hk1 (fun k hk => by have := HG.out; omega)); clear HV3_5; have HV4_6 := aM_ (ue_ HV4_5.out hk1 (fun k hk => by have := HG.out; omega)); clear HV4_5; have HV5_6 := aM_ (Kd.R_mono hv5 (ok' := fun k => W.heap.size < k) (fun k hk => Nat.lt_of_lt_of_le HZ5.out hk)); clear hv5; clear hr1 hk1 hp HQ5 HR5 HB5 HK5 HP5 HZ5; have hf_0 := da_ HB6.out 0; have hc_0 := ba_ HB6.out 0; have hf_1 := da_ HB6.out 1; have hc_1 := ba_ HB6.out 1; have hf_2 := da_ HB6.out 2; have hc_2 := ba_ HB6.out 2; have hf_3 := da_ HB6.out 3; have hc_3 := ba_ HB6.out 3; have hf_4 := da_ HB6.out 4; have hc_4 := ba_ HB6.out 4; have hf_5 := da_ HB6.out 5; have hc_5 := ba_ HB6.out 5; have hu1 := Tryz.underlying44
       go_wp2
       have hb1 : ((((((w6.setCell ⟨W.heap.size, 0, none⟩ (.string x0)).setCell ⟨W.heap.size, 1, none⟩ (.int .i64 x1)).setCell ⟨W.heap.size, 2, none⟩ (.int .i64 x2)).setCell ⟨W.heap.size, 3, none⟩ (.slice R3 x3.length k3)).setCell ⟨W.heap.size, 4, none⟩ (.slice R4 x4.length k4)).setCell ⟨W.heap.size, 5, none⟩ (.slice R5 x5.length k5)).heap[W.heap.size]? = some (.cells #[.string x0, .int .i64 x1, .int .i64 x2, .slice R3 x3.length k3, .slice R4 x4.length k4, .slice R5 x5.length k5] 44 (0, 0)) := by simpa using (sa_ (sa_ (sa_ (sa_ (sa_ (sa_ HB6.out 0 (.string x0)) 1 (.int .i64 x1)) 2 (.int .i64 x2)) 3 (.slice R3 x3.length k3)) 4 (.slice R4 x4.length k4)) 5 (.slice R5 x5.length k5))
       have hv3 := Kd.R_mono (Kd.R_far (Kd.R_far (Kd.R_far (Kd.R_far (Kd.R_far (Kd.R_far HV3_6.out (p := ⟨W.heap.size, 0, none⟩) (fun k hk => Nat.ne_of_gt hk) (.string x0)) (p := ⟨W.heap.size, 1, none⟩) (fun k hk => Nat.ne_of_gt hk) (.int .i64 x1)) (p := ⟨W.heap.size, 2, none⟩) (fun k hk => Nat.ne_of_gt hk) (.int .i64 x2)) (p := ⟨W.heap.size, 3, none⟩) (fun k hk => Nat.ne_of_gt hk) (.slice R3 x3.length k3)) (p := ⟨W.heap.size, 4, none⟩) (fun k hk => Nat.ne_of_gt hk) (.slice R4 x4.length k4)) (p := ⟨W.heap.size, 5, none⟩) (fun k hk => Nat.ne_of_gt hk) (.slice R5 x5.length k5)) (ok' := fun k => W.heap.size ≤ k) (fun k hk => Nat.le_of_lt hk); have hv4 := Kd.R_mono (Kd.R_far (Kd.R_far (Kd.R_far (Kd.R_far (Kd.R_far (Kd.R_far HV4_6.out (p := ⟨W.heap.size, 0, none⟩) (fun k hk => Nat.ne_of_gt hk) (.string x0)) (p := ⟨W.heap.size, 1, none⟩) (fun k hk => Nat.ne_of_gt hk) (.int .i64 x1)) (p := ⟨W.heap.size, 2, none⟩) (fun k hk => Nat.ne_of_gt hk) (.int .i64 x2)) (p := ⟨W.heap.size, 3, none⟩) (fun k hk => Nat.ne_of_gt hk) (.slice R3 x3.length k3)) (p := ⟨W.heap.size, 4, none⟩) (fun k hk => Nat.ne_of_gt hk) (.slice R4 x4.length k4)) (p := ⟨W.heap.size, 5, none⟩) (fun k hk => Nat.ne_of_gt hk) (.slice R5 x5.length k5)) (ok' := fun k => W.heap.size ≤ k) (fun k hk => Nat.le_of_lt hk); have hv5 := Kd.R_mono (Kd.R_far (Kd.R_far (Kd.R_far (Kd.R_far (Kd.R_far (Kd.R_far HV5_6.out (p := ⟨W.heap.size, 0, none⟩) (fun k hk => Nat.ne_of_gt hk) (.string x0)) (p := ⟨W.heap.size, 1, none⟩) (fun k hk => Nat.ne_of_gt hk) (.int .i64 x1)) (p := ⟨W.heap.size, 2, none⟩) (fun k hk => Nat.ne_of_gt hk) (.int .i64 x2)) (p := ⟨W.heap.size, 3, none⟩) (fun k hk => Nat.ne_of_gt hk) (.slice R3 x3.length k3)) (p := ⟨W.heap.size, 4, none⟩) (fun k hk => Nat.ne_of_gt hk) (.slice R4 x4.length k4)) (p := ⟨W.heap.size, 5, none⟩) (fun k hk => Nat.ne_of_gt hk) (.slice R5 x5.length k5)) (ok' := fun k => W.heap.size ≤ k) (fun k hk => Nat.le_of_lt hk); refine bodyPost_ret (results_cell_row rfl _ _ W.heap.size 44 #[.string x0, .int .i64 x1, .int .i64 x2, .slice R3 x3.length k3, .slice R4 x4.length k4, .slice R5 x5.length k5] (0, 0) _ rfl hb1 Tryz.underlying44 rfl (by kernel_rfl)) rfl ?_; rw [HP6.out]; exact ⟨⟨_, rfl, _, rfl, k44_mkM _ _ _ (⟨x0, x1, x2, x3, x4, x5⟩ : S44) hv3 hv4 hv5⟩, (RdAt.box (RdAt.box (RdAt.box (RdAt.box (RdAt.box (RdAt.box HR6.out HG.out _ _) HG.out _ _) HG.out _ _) HG.out _ _) HG.out _ _) HG.out _ _), (KeptR.box (KeptR.box (KeptR.box (KeptR.box (KeptR.box (KeptR.box HK6.out (Nat.le_refl _) _ _) (Nat.le_refl _) _ _) (Nat.le_refl _) _ _) (Nat.le_refl _) _ _) (Nat.le_refl _) _ _) (Nat.le_refl _) _ _)⟩
theorem manyL_rd (w0 : World) (h : Nat) (A : Option Addr) (b : List Int) (c p : Nat) (W : World) (hs : Src w0 A b c) (hr : RdAt w0 h A b c p W) :
  Calls Tryz.prog 37 #[.pointer (some ⟨h, 0, none⟩), .func (.func 38) #[.pointer (some ⟨h, 0, none⟩)] #[]] W fun e W' => Rd w0 h A b c W (VR k44 44 w0 W) e W' (ib_ (pLoc b) b p) := by
 have HS := aM_ hs
 have hlb := hs.len
 have HG : Az (h < W.heap.size) := ⟨za_ hr.blk⟩
 have HP0 : Az (ib_ (pLoc b) b p = (pNum b p).bind fun z => if z.1 < 0 ∨ ((b.length : Int) - z.2) / 8 < z.1 then none else xa_ (pLoc b) z.1.toNat z.2) := ⟨rfl⟩
 have HQ0 := aM_ (kc_ w0 h A b c p W hs hr)
 clear hs hr
 go_enter Tryz.func37, Tryz.ntmps37
 go_wp2_with fail
 refine HQ0.out.mono ?_
 intro e w1 hq
 cases hp : pNum b p with
 | none =>
  rw [hp] at hq; obtain ⟨⟨T, v, rfl⟩, hbl⟩ := hq
  exact ⟨rfl, by rw [HP0.out, hp]; exact ⟨⟨T, v, rfl⟩, hbl⟩⟩
 | some z =>
  obtain ⟨n, q0⟩ := z; rw [hp] at hq; obtain ⟨⟨v, rfl, rfl⟩, hr1, hk1⟩ := hq; have HP1 : Az (ib_ (pLoc b) b p = if n < 0 ∨ ((b.length : Int) - q0) / 8 < n then none else xa_ (pLoc b) n.toNat q0) := ⟨by rw [HP0.out, hp]; rfl⟩; have hpos := hr1.pos; have c0 : w1.cell? ⟨h, 0, none⟩ = some (.slice A b.length c) := ba_ hr1.blk 0; have c1 : w1.cell? ⟨h, 1, none⟩ = some (.int .i64 (q0 : Int)) := ba_ hr1.blk 1; have HR1 := aM_ hr1; have HK1 := aM_ hk1; have hw1 : wrap64 ((b.length : Int) - (q0 : Int)) = (b.length : Int) - (q0 : Int) := by rw [wrap64]; omega
  have hw2 : wrap64 (((b.length : Int) - (q0 : Int)) / 8) = ((b.length : Int) - (q0 : Int)) / 8 := by rw [wrap64]; omega
  have hdd : ((b.length : Int) - (q0 : Int)) / 8 ≤ 125000000000 := by omega
  clear hr1 hk1 hp HQ0 HP0
  by_cases hbad : n < 0 ∨ ((b.length : Int) - (q0 : Int)) / 8 < n
  ·have HPP : Az (ib_ (pLoc b) b p = none) := ⟨by rw [HP1.out, if_pos hbad]⟩
   by_cases hn0 : n < 0
   ·have e1 : decide (n < 0) = true := decide_eq_true hn0
    clear hbad hn0
    go_wp2
    go_quiet (fail)
    go_wp2
    refine ⟨rfl, ?_⟩; rw [HPP.out]; exact ⟨⟨_, _, rfl⟩, fa_ HR1.out.below (ca_ (Below.refl _ _) _)⟩
   have e1 : decide (n < 0) = false := decide_eq_false hn0; have e2 : decide (((b.length : Int) - (q0 : Int)) / 8 < n) = true := decide_eq_true (by omega); clear hbad hn0
   go_wp2
   go_quiet (fail)
   go_wp2
   refine ⟨rfl, ?_⟩; rw [HPP.out]; exact ⟨⟨_, _, rfl⟩, fa_ HR1.out.below (ca_ (Below.refl _ _) _)⟩
  obtain ⟨m, rfl⟩ : ∃ m : Nat, n = (m : Int) := ⟨n.toNat, by omega⟩; have hm : m ≤ 125000000000 := by omega
  have e1 : decide ((m : Int) < 0) = false := decide_eq_false (by omega); have e2 : decide (((b.length : Int) - (q0 : Int)) / 8 < (m : Int)) = false := decide_eq_false (by omega); have HPP : Az (ib_ (pLoc b) b p = xa_ (pLoc b) m q0) := ⟨by rw [HP1.out, if_neg hbad, Int.toNat_natCast]⟩; clear hbad HP1
  go_wp2
  go_quiet (fail)
  have HR2 : Az (RdAt w0 h A b c q0 (w1.drewN nq)) := ⟨⟨HR1.out.blk, ca_ HR1.out.below _, HR1.out.ge, HR1.out.pos⟩⟩; have HK2 : Az (KeptR h W (w1.drewN nq)) := ⟨HK1.out.trans (KeptR.below (ca_ (Below.refl _ _) _))⟩; have HR0 : Az (Kd.R k44 44 (w1.drewN nq) w0.heap.size (fun k => W.heap.size ≤ k) (.slice none 0 0) []) := ⟨Kd.R_nil _ _ _ _ _⟩; have HT0 : Az (xa_ (pLoc b) m q0 = (xa_ (pLoc b) (m - 0) q0).map fun y => ([] ++ y.1, y.2)) := ⟨by simp⟩; clear HR1 HK1 c0 c1; generalize w1.drewN nq = w2 at *
  go_wp2
  go_loopg [6, 33] m (fun gg s6 s33 wr => ∃ (i : Nat) (xs : List S44) (q : Nat), i ≤ m ∧ m - i ≤ gg ∧ s33 = .int .i64 i ∧ Az (xs.length = i) ∧ Az (xa_ (pLoc b) m q0 = (xa_ (pLoc b) (m - i) q).map fun y => (xs ++ y.1, y.2)) ∧ Az (Kd.R k44 44 wr w0.heap.size (fun k => W.heap.size ≤ k) s6 xs) ∧ Az (RdAt w0 h A b c q wr) ∧ Az (KeptR h W wr))
  case atStart => exact ⟨0, [], q0, by omega, by omega, rfl, ⟨rfl⟩, HT0, HR0, HR2, HK2⟩
  clear HR0 HR2 HK2 HT0; obtain ⟨i, xs, q, hi, hgg, rfl, HL, HT, HX, HW, HK⟩ := hrel; obtain ⟨A6, c6, hs6⟩ := Kd.R_slice HX.out; subst hs6
  by_cases hil : i < m
  ·have hilz : (i : Int) < (m : Int) := by omega
   have HQ := aM_ (uu_ w0 h A b c q wr HS.out HW.out)
   go_wp2_with fail
   refine HQ.out.mono ?_; intro e w3 hq
   cases hp : pLoc b q with
   | none =>
    rw [hp] at hq; obtain ⟨⟨T, v, rfl⟩, hbl⟩ := hq
    exact ⟨rfl, by rw [HPP.out, HT.out, show m - i = (m - i - 1) + 1 from by omega, xa_, hp]; exact ⟨⟨T, v, rfl⟩, hbl⟩⟩
   | some z =>
    obtain ⟨x, q1⟩ := z; rw [hp] at hq; obtain ⟨⟨v, rfl, cs, rfl, hm⟩, hr1, hk1⟩ := hq; obtain ⟨u3, u4, u5, rfl, gu3, gu4, gu5⟩ := zu_ hm; have hv := hm; clear gu3; clear gu4; clear gu5; clear hm
    have HT1 : Az (xa_ (pLoc b) m q0 = (xa_ (pLoc b) (m - (i + 1)) q1).map fun y => (xs ++ [x] ++ y.1, y.2)) := ⟨by
     rw [HT.out, show m - i = (m - (i + 1)) + 1 from by omega, xa_, hp]; simp only [Option.bind_some, Option.map_map]
     congr 1
     funext y
     simp⟩
    have HX1 := aM_ (ue_ HX.out hk1 (fun k hk => by have := HG.out; omega)); have HW1 := aM_ hr1; have HK1 := aM_ (HK.out.trans hk1); have HSZ := aM_ (HK.out.size HW.out); have HSY := aM_ (hk1.size hr1); have hlx : xs.length ≤ 125000000000 := by rw [HL.out]; omega
    have HLX := aM_ hlx; have HOW : Az (∀ k, (Value.slice A6 xs.length c6).ownBlock = some k → k < wr.heap.size) := ⟨fun k hk => Kd.R_own_lt HX.out hk⟩; clear hp hr1 hk1 HQ hlx HT HX HK
    go_wp2_with (at_builtin; go_loud (refine Kd.R_append k44 (w0 := w0) w0.heap.size rfl (.tmp 35) (.tmp 38) 26 44 (.agg #[.string ⟨#[]⟩, .int .i64 0, .int .i64 0, .slice none 0 0, .slice none 0 0, .slice none 0 0]) 104 rfl Tryz.underlying26 (by kernel_rfl) rfl (by show 0 < 6; decide) (by decide) (.slice A6 xs.length c6) xs x [.string x.f0, .int .i64 x.f1, .int .i64 x.f2, u3, u4, u5] (fun k => W.heap.size ≤ k) (fun k => wr.heap.size ≤ k) rfl rfl hv ?hok ?hf HX1.out ?hB ?hb ?hl ?_); (case hok => go_loud (exact (fun k hk => ⟨Nat.le_trans HSZ.out hk, fun e => by have := HOW.out k e.symm; omega⟩))); (case hf => go_loud (exact (fun k hk => by have := HSZ.out; have := HSY.out; omega))); (case hB => go_loud (exact HW1.out.below)); (case hb => go_loud (exact HW1.out.below.size)); (case hl => go_loud (have := HLX.out; omega)); intro v4 w4 ho hb hg hat)
    have HR5 : Az (RdAt w0 h A b c q1 w4) := ⟨⟨gb_ HW1.out.blk hg (fun e => by have := HX1.out.1 _ e.symm; have := HG.out; omega), hb, HW1.out.ge, HW1.out.pos⟩⟩; have HK5 : Az (KeptR h W w4) := ⟨fun k o hko hne => gb_ (HK1.out k o hko hne) hg (fun e => by have := HX1.out.1 _ e.symm; have := za_ hko; omega)⟩; have HX5 := aM_ ho; have HL5 : Az ((xs ++ [x]).length = i + 1) := ⟨by rw [List.length_append, HL.out]; rfl⟩; clear ho hb hg hat hv HX1 HW1 HK1 HL HOW HSZ HSY HLX; generalize xs ++ [x] = ys at *; obtain ⟨A7, c7, hs7⟩ := Kd.R_slice HX5.out; subst hs7
    go_wp2
    go_roundg (m - (i + 1))
    case measure => omega
    case rel => exact ⟨i + 1, ys, q1, by omega, by omega, by go_num, HL5, HT1, HX5, HR5, HK5⟩
  have he : i = m := by omega
  have hilz : decide ((i : Int) < (m : Int)) = false := by simp; omega
  have HPQ : Az (ib_ (pLoc b) b p = some (xs, q)) := ⟨by rw [HPP.out, HT.out, he, Nat.sub_self, xa_]; simp⟩; have HCL := aM_ (cloneL A6 c6 xs wr W.heap.size w0.heap.size HX.out (HK.out.size HW.out) HW.out.below.size (by rw [HL.out]; omega)); clear he HPP HT HL
  go_wp2_with fail
  refine HCL.out.mono ?_; rintro e w5 ⟨v5, rfl, hR5, hB5⟩; have HO := aM_ hR5; have HR6 : Az (RdAt w0 h A b c q w5) := ⟨⟨oa_ HW.out.blk hB5, fa_ HW.out.below hB5, HW.out.ge, HW.out.pos⟩⟩; have HK6 : Az (KeptR h W w5) := ⟨HK.out.trans (KeptR.below hB5)⟩; obtain ⟨A7, c7, hs7⟩ := Kd.R_slice hR5; subst hs7; clear hR5 hB5 HCL
  go_wp2
  go_ret
  rw [HPQ.out]; exact ⟨⟨_, rfl, HO.out⟩, HR6.out, HK6.out⟩
theorem mk_ (p q : Addr) (u : TypeId) (pv x y : Value) (older : List PanicEntry) (w : World) (hc : w.cell? p = some x) (hz : w.frozen? p = false) (hd : w.cell? q = some y) (hy : w.frozen? q = false) (hpq : p.block ≠ q.block) :
  CallsD Tryz.prog 36 #[.pointer (some p), .pointer (some q)] (.panicking ({ v := .iface u pv, recovered := false } :: older)) w fun e u' w' =>
   e = .returned (.tuple #[]) ∧ u' = .panicking ({ v := .iface u pv, recovered := true } :: older) ∧ w' = (w.setCell p (.slice none 0 0)).setCell q (.bool false) := by
 refine callsD_of_wpS Tryz.func36 rfl fun c₀ cs hu => ?_
 apply wpS_seq
 apply wpS_region
 simp [wpOpsS, go_sem, recoverD, hu, Tryz.ntmps36, Exit.thenS]
 apply wpS_seq
 apply wpS_region
 simp [wpOpsS, go_sem, Exit.thenS]
 refine wpS_cond (t := true) (by simp [Act.eval, Array.replicate]) ?_
 simp only [if_true]
 apply wpS_region
 have hq2 : (w.setCell p (.slice none 0 0)).cell? q = some y := by rw [World.cell?_setCell_other _ _ _ _ (fun h => hpq (congrArg Addr.block h))]; exact hd
 have hq3 : (w.setCell p (.slice none 0 0)).frozen? q = false := by simpa using hy
 simp [wpOpsS, go_sem, hc, hz, hq2, hq3, bodyPostS, results, Tryz.results36]
theorem sh_ (p q : Addr) (w : World) :
  CallsD Tryz.prog 36 #[.pointer (some p), .pointer (some q)] .returning w fun e u' w' => e = .returned (.tuple #[]) ∧ u' = .returning ∧ w' = w := by
 refine callsD_of_wpS Tryz.func36 rfl fun c₀ cs hu => ?_
 apply wpS_seq
 apply wpS_region
 simp [wpOpsS, go_sem, recoverD, hu, Tryz.ntmps36, Exit.thenS]
 apply wpS_seq
 apply wpS_region
 simp [wpOpsS, go_sem, Exit.thenS]
 refine wpS_cond (t := false) (by simp [Act.eval, Array.replicate]) ?_
 simp only [Bool.false_eq_true, if_false]
 refine wpS_of_wp (wp_skip ?_)
 cases c₀
 simp_all [bodyPostS, results, Tryz.results36]
noncomputable def decP (b : List Int) : Option (List S44) := match ib_ (pLoc b) b 0 with
 | none => none
 | some (l, q) => if q < b.length then none else if bf_ l = true then some l else none
def VDec (w0 : World) (o : Option (List S44)) (v : Value) (w' : World) : Prop := match o with
 | none => v = .slice none 0 0
 | some l => Kd.R k44 44 w' w0.heap.size (fun k => w0.heap.size ≤ k) v l
theorem vj_ (A : Option Addr) (c : Nat) (b : List Int) (w : World) (hr : Kd.C (Kd.int .u8) w A b.length b) (hc : b.length ≤ c) (hlen : b.length ≤ 1000000000000) (hok : ∀ l q, ib_ (pLoc b) b 0 = some (l, q) → wo_ l) :
  Calls Tryz.prog 15 #[.slice A b.length c] w fun e w' => ∃ v : Value, e = .returned (.tuple #[v, .bool (decP b).isSome]) ∧ VDec w (decP b) v w' ∧ Below w.heap.size w w' := by
 have hmf : ∀ (fn : Fn) (first cap : Array Value) (w : World), (Instr.makeFunc fn first cap).run Tryz.prog w = .ok (.func fn first cap) w := fun _ _ _ _ => rfl
 have HOK := aM_ hok
 have hbB : Below w.heap.size w ((w.alloc (.cells #[.slice none 0 0] 26)).alloc (.cells #[.bool false] 4)) := aa_ (aa_ (Below.refl _ _) _) _
 have HBB := aM_ hbB
 have HS : Az (Src ((w.alloc (.cells #[.slice none 0 0] 26)).alloc (.cells #[.bool false] 4)) A b c) := ⟨⟨Kd.C_alloc (Kd.C_alloc hr _) _, hc, hlen⟩⟩
 have hsz : ((w.alloc (.cells #[.slice none 0 0] 26)).alloc (.cells #[.bool false] 4)).heap.size = w.heap.size + 1 + 1 := by simp
 have HP2 : Az (((w.alloc (.cells #[.slice none 0 0] 26)).alloc (.cells #[.bool false] 4)).heap[w.heap.size]? = some (.cells #[.slice none 0 0] 26 (0, 0))) := ⟨oa_ (ra_ w _) (aa_ (Below.refl _ _) _)⟩
 have HQ2 : Az (((w.alloc (.cells #[.slice none 0 0] 26)).alloc (.cells #[.bool false] 4)).heap[w.heap.size + 1]? = some (.cells #[.bool false] 4 (0, 0))) := ⟨by have := ra_ (w.alloc (.cells #[.slice none 0 0] 26)) (.cells #[.bool false] 4); simpa using this⟩
 have HR3 : Az (RdAt ((w.alloc (.cells #[.slice none 0 0] 26)).alloc (.cells #[.bool false] 4)) (w.heap.size + 1 + 1) A b c 0 (((w.alloc (.cells #[.slice none 0 0] 26)).alloc (.cells #[.bool false] 4)).alloc (.cells #[.slice A b.length c, .int .i64 0] 82))) := ⟨by
  rw [← hsz]
  exact ⟨ra_ _ _, aa_ (Below.refl _ _) _, Nat.le_refl _, Nat.zero_le _⟩⟩
 have HM := aM_ (manyL_rd ((w.alloc (.cells #[.slice none 0 0] 26)).alloc (.cells #[.bool false] 4)) (w.heap.size + 1 + 1) A b c 0 (((w.alloc (.cells #[.slice none 0 0] 26)).alloc (.cells #[.bool false] 4)).alloc (.cells #[.slice A b.length c, .int .i64 0] 82)) HS.out HR3.out)
 have HZ3 : Az (((w.alloc (.cells #[.slice none 0 0] 26)).alloc (.cells #[.bool false] 4)).heap.size = w.heap.size + 1 + 1 ∧ w.heap.size + 3 ≤ (((w.alloc (.cells #[.slice none 0 0] 26)).alloc (.cells #[.bool false] 4)).alloc (.cells #[.slice A b.length c, .int .i64 0] 82)).heap.size) := ⟨hsz, by simp⟩
 have HK3 : Az (Below ((w.alloc (.cells #[.slice none 0 0] 26)).alloc (.cells #[.bool false] 4)).heap.size ((w.alloc (.cells #[.slice none 0 0] 26)).alloc (.cells #[.bool false] 4)) (((w.alloc (.cells #[.slice none 0 0] 26)).alloc (.cells #[.bool false] 4)).alloc (.cells #[.slice A b.length c, .int .i64 0] 82))) := ⟨aa_ (Below.refl _ _) _⟩
 clear hr hc hlen hok hbB hsz
 go_enter_defers Tryz.func15, Tryz.ntmps15
 go_wp2_with fail
 generalize (((w.alloc (.cells #[.slice none 0 0] 26)).alloc (.cells #[.bool false] 4)).alloc (.cells #[.slice A b.length c, .int .i64 0] 82)) = W3 at *
 generalize ((w.alloc (.cells #[.slice none 0 0] 26)).alloc (.cells #[.bool false] 4)) = W2 at *
 refine HM.out.mono ?_
 intro e w1 hq
 cases hp : ib_ (pLoc b) b 0 with
 | none =>
  rw [hp] at hq; obtain ⟨⟨T, v, rfl⟩, hbl⟩ := hq; have hd : decP b = none := by unfold decP; rw [hp]
  have hP := oa_ HP2.out hbl; have hQ := oa_ HQ2.out hbl; have HBW : Az (Below w.heap.size w w1) := ⟨fa_ HBB.out hbl⟩; have hP1 := sa_ hP 0 (.slice none 0 0); have hQ1 : (w1.setCell ⟨w.heap.size, 0, none⟩ (.slice none 0 0)).heap[w.heap.size + 1]? = some (.cells #[.bool false] 4 (0, 0)) := (heap_setCell_other w1 ⟨w.heap.size, 0, none⟩ _ _ (by show w.heap.size + 1 ≠ w.heap.size; omega)).trans hQ; refine leaves_cons (f := 36) (args := #[.pointer (some ⟨w.heap.size, 0, none⟩), .pointer (some ⟨w.heap.size + 1, 0, none⟩)]) (by simp) (by simp [go_sem]) ?_; refine (mk_ ⟨w.heap.size, 0, none⟩ ⟨w.heap.size + 1, 0, none⟩ T v _ _ [] w1 (ba_ hP 0) (da_ hP 0) (ba_ hQ 0) (da_ hQ 0) (by show w.heap.size ≠ w.heap.size + 1; omega)).mono ?_; rintro e u' w'' ⟨rfl, rfl, rfl⟩
  have hc1 : ((w1.setCell ⟨w.heap.size, 0, none⟩ (.slice none 0 0)).setCell ⟨w.heap.size + 1, 0, none⟩ (.bool false)).cell? ⟨w.heap.size, 0, none⟩ = some (.slice none 0 0) := by
   have := (heap_setCell_other (w1.setCell ⟨w.heap.size, 0, none⟩ (.slice none 0 0)) ⟨w.heap.size + 1, 0, none⟩ w.heap.size (.bool false) (by show w.heap.size ≠ w.heap.size + 1; omega)).trans hP1; exact ba_ this 0
  have hc2 : ((w1.setCell ⟨w.heap.size, 0, none⟩ (.slice none 0 0)).setCell ⟨w.heap.size + 1, 0, none⟩ (.bool false)).cell? ⟨w.heap.size + 1, 0, none⟩ = some (.bool false) := ba_ (sa_ hQ1 0 (.bool false)) 0; have hB2 : Below w.heap.size w ((w1.setCell ⟨w.heap.size, 0, none⟩ (.slice none 0 0)).setCell ⟨w.heap.size + 1, 0, none⟩ (.bool false)) := Below.setCell (p := ⟨w.heap.size + 1, 0, none⟩) (Below.setCell (p := ⟨w.heap.size, 0, none⟩) HBW.out (Nat.le_refl _) _) (by show w.heap.size ≤ w.heap.size + 1; omega) _; generalize (w1.setCell ⟨w.heap.size, 0, none⟩ (.slice none 0 0)).setCell ⟨w.heap.size + 1, 0, none⟩ (.bool false) = w2 at *; rw [hd]; clear hP hQ hP1 hQ1; simp [Leaves, settle, results, Tryz.results15, go_sem, hc1, hc2]
  exact ⟨rfl, hB2⟩
 | some z => 
  obtain ⟨l, q⟩ := z; rw [hp] at hq; obtain ⟨⟨v, rfl, hv⟩, hr1, hk1⟩ := hq; obtain ⟨A6, c6, hs6⟩ := Kd.R_slice hv; subst hs6; have hv' : Kd.R k44 44 w1 w.heap.size (fun k => w.heap.size + 3 ≤ k) (.slice A6 l.length c6) l := Kd.R_lower (Kd.R_mono hv (fun k hk => Nat.le_trans HZ3.out.2 hk)) (by have := HZ3.out.1; omega); have HR1 := aM_ hv'; have HOL := aM_ (HOK.out l q hp); have c1 : w1.cell? ⟨w.heap.size + 1 + 1, 1, none⟩ = some (.int .i64 (q : Int)) := ba_ hr1.blk 1; have HPW := aM_ (oa_ HP2.out hr1.below); have HQW := aM_ (oa_ HQ2.out hr1.below); have HBW : Az (Below w.heap.size w w1) := ⟨fa_ HBB.out hr1.below⟩; have hp0 := ba_ HPW.out 0; have hq0 := ba_ HQW.out 0; have hpf := da_ HPW.out 0; have hqf := da_ HQW.out 0
  by_cases hlt : q < b.length
  ·have HD : Az (decP b = none) := ⟨by unfold decP; rw [hp]; exact if_pos hlt⟩
   have e1 : decide ((q : Int) < (b.length : Int)) = true := decide_eq_true (by omega); have e1' : decide (q < b.length) = true := decide_eq_true hlt; clear hv hv' hr1 hk1 hp hlt
   go_wp2_with fail
   refine leaves_cons (f := 36) (args := #[.pointer (some ⟨w.heap.size, 0, none⟩), .pointer (some ⟨w.heap.size + 1, 0, none⟩)]) (by simp) (by simp [go_sem]) ?_; refine (sh_ ⟨w.heap.size, 0, none⟩ ⟨w.heap.size + 1, 0, none⟩ _).mono ?_; rintro e u' w'' ⟨rfl, rfl, rfl⟩; have hP1 := sa_ HPW.out 0 (.slice none 0 0); have hQ1 : (w1.setCell ⟨w.heap.size, 0, none⟩ (.slice none 0 0)).heap[w.heap.size + 1]? = some (.cells #[.bool false] 4 (0, 0)) := (heap_setCell_other w1 ⟨w.heap.size, 0, none⟩ _ _ (by show w.heap.size + 1 ≠ w.heap.size; omega)).trans HQW.out
   have hc1 : ((w1.setCell ⟨w.heap.size, 0, none⟩ (.slice none 0 0)).setCell ⟨w.heap.size + 1, 0, none⟩ (.bool false)).cell? ⟨w.heap.size, 0, none⟩ = some (.slice none 0 0) := by
    have := (heap_setCell_other (w1.setCell ⟨w.heap.size, 0, none⟩ (.slice none 0 0)) ⟨w.heap.size + 1, 0, none⟩ w.heap.size (.bool false) (by show w.heap.size ≠ w.heap.size + 1; omega)).trans hP1; exact ba_ this 0
   have hc2 : ((w1.setCell ⟨w.heap.size, 0, none⟩ (.slice none 0 0)).setCell ⟨w.heap.size + 1, 0, none⟩ (.bool false)).cell? ⟨w.heap.size + 1, 0, none⟩ = some (.bool false) := ba_ (sa_ hQ1 0 (.bool false)) 0; have hB2 : Below w.heap.size w ((w1.setCell ⟨w.heap.size, 0, none⟩ (.slice none 0 0)).setCell ⟨w.heap.size + 1, 0, none⟩ (.bool false)) := Below.setCell (p := ⟨w.heap.size + 1, 0, none⟩) (Below.setCell (p := ⟨w.heap.size, 0, none⟩) HBW.out (Nat.le_refl _) _) (by show w.heap.size ≤ w.heap.size + 1; omega) _; have HV : VDec w none (.slice none 0 0) ((w1.setCell ⟨w.heap.size, 0, none⟩ (.slice none 0 0)).setCell ⟨w.heap.size + 1, 0, none⟩ (.bool false)) := rfl; generalize (w1.setCell ⟨w.heap.size, 0, none⟩ (.slice none 0 0)).setCell ⟨w.heap.size + 1, 0, none⟩ (.bool false) = w3 at *; rw [HD.out]; simp [Leaves, settle, results, Tryz.results15, go_sem, hc1, hc2]; exact ⟨HV, hB2⟩
  have e1 : decide ((q : Int) < (b.length : Int)) = false := decide_eq_false (by omega); have e1' : decide (q < b.length) = false := decide_eq_false hlt; have HRT := aM_ (uk_ A6 c6 l w1 (Kd.R_reads' hv').2.2 (Kd.R_reads' hv').2.1 HOL.out)
  cases hrt : bf_ l with
  | false =>
   rw [hrt] at HRT; have HD : Az (decP b = none) := ⟨by unfold decP; rw [hp]; show (if q < b.length then none else if bf_ l = true then some l else none) = none; rw [if_neg hlt, hrt]; rfl⟩; clear hv hv' hr1 hk1 hp hlt hrt hp0 hq0 hpf hqf
   go_wp2_with fail
   refine HRT.out.mono ?_; rintro e w2 ⟨rfl, hB⟩; replace HPW := aM_ (oa_ HPW.out hB); replace HQW := aM_ (oa_ HQW.out hB); replace HBW : Az (Below w.heap.size w w2) := ⟨fa_ HBW.out hB⟩; have hp0 := ba_ HPW.out 0; have hq0 := ba_ HQW.out 0; have hpf := da_ HPW.out 0; have hqf := da_ HQW.out 0; clear hB HRT c1
   go_wp2_with fail
   refine leaves_cons (f := 36) (args := #[.pointer (some ⟨w.heap.size, 0, none⟩), .pointer (some ⟨w.heap.size + 1, 0, none⟩)]) (by simp) (by simp [go_sem]) ?_; refine (sh_ ⟨w.heap.size, 0, none⟩ ⟨w.heap.size + 1, 0, none⟩ _).mono ?_; rintro e u' w'' ⟨rfl, rfl, rfl⟩; have hP1 := sa_ HPW.out 0 (.slice none 0 0); have hQ1 : (w2.setCell ⟨w.heap.size, 0, none⟩ (.slice none 0 0)).heap[w.heap.size + 1]? = some (.cells #[.bool false] 4 (0, 0)) := (heap_setCell_other w2 ⟨w.heap.size, 0, none⟩ _ _ (by show w.heap.size + 1 ≠ w.heap.size; omega)).trans HQW.out
   have hc1 : ((w2.setCell ⟨w.heap.size, 0, none⟩ (.slice none 0 0)).setCell ⟨w.heap.size + 1, 0, none⟩ (.bool false)).cell? ⟨w.heap.size, 0, none⟩ = some (.slice none 0 0) := by
    have := (heap_setCell_other (w2.setCell ⟨w.heap.size, 0, none⟩ (.slice none 0 0)) ⟨w.heap.size + 1, 0, none⟩ w.heap.size (.bool false) (by show w.heap.size ≠ w.heap.size + 1; omega)).trans hP1; exact ba_ this 0
   have hc2 : ((w2.setCell ⟨w.heap.size, 0, none⟩ (.slice none 0 0)).setCell ⟨w.heap.size + 1, 0, none⟩ (.bool false)).cell? ⟨w.heap.size + 1, 0, none⟩ = some (.bool false) := ba_ (sa_ hQ1 0 (.bool false)) 0; have hB2 : Below w.heap.size w ((w2.setCell ⟨w.heap.size, 0, none⟩ (.slice none 0 0)).setCell ⟨w.heap.size + 1, 0, none⟩ (.bool false)) := Below.setCell (p := ⟨w.heap.size + 1, 0, none⟩) (Below.setCell (p := ⟨w.heap.size, 0, none⟩) HBW.out (Nat.le_refl _) _) (by show w.heap.size ≤ w.heap.size + 1; omega) _; have HV : VDec w none (.slice none 0 0) ((w2.setCell ⟨w.heap.size, 0, none⟩ (.slice none 0 0)).setCell ⟨w.heap.size + 1, 0, none⟩ (.bool false)) := rfl; generalize (w2.setCell ⟨w.heap.size, 0, none⟩ (.slice none 0 0)).setCell ⟨w.heap.size + 1, 0, none⟩ (.bool false) = w3 at *; rw [HD.out]; simp [Leaves, settle, results, Tryz.results15, go_sem, hc1, hc2]
   exact ⟨HV, hB2⟩
  | true =>
   rw [hrt] at HRT; have HD : Az (decP b = some l) := ⟨by unfold decP; rw [hp]; show (if q < b.length then none else if bf_ l = true then some l else none) = some l; rw [if_neg hlt, hrt]; rfl⟩; clear hv hv' hr1 hk1 hp hlt hrt hp0 hq0 hpf hqf
   go_wp2_with fail
   refine HRT.out.mono ?_; rintro e w2 ⟨rfl, hB⟩; replace HPW := aM_ (oa_ HPW.out hB); replace HQW := aM_ (oa_ HQW.out hB); replace HBW : Az (Below w.heap.size w w2) := ⟨fa_ HBW.out hB⟩; have HR2 := aM_ (Kd.R_below HR1.out hB); have hp0 := ba_ HPW.out 0; have hq0 := ba_ HQW.out 0; have hpf := da_ HPW.out 0; have hqf := da_ HQW.out 0; clear hB HRT c1
   go_wp2_with fail
   refine leaves_cons (f := 36) (args := #[.pointer (some ⟨w.heap.size, 0, none⟩), .pointer (some ⟨w.heap.size + 1, 0, none⟩)]) (by simp) (by simp [go_sem]) ?_; refine (sh_ ⟨w.heap.size, 0, none⟩ ⟨w.heap.size + 1, 0, none⟩ _).mono ?_; rintro e u' w'' ⟨rfl, rfl, rfl⟩; have hP1 := sa_ HPW.out 0 (.slice A6 l.length c6); have hQ1 : (w2.setCell ⟨w.heap.size, 0, none⟩ (.slice A6 l.length c6)).heap[w.heap.size + 1]? = some (.cells #[.bool false] 4 (0, 0)) := (heap_setCell_other w2 ⟨w.heap.size, 0, none⟩ _ _ (by show w.heap.size + 1 ≠ w.heap.size; omega)).trans HQW.out
   have hc1 : ((w2.setCell ⟨w.heap.size, 0, none⟩ (.slice A6 l.length c6)).setCell ⟨w.heap.size + 1, 0, none⟩ (.bool true)).cell? ⟨w.heap.size, 0, none⟩ = some (.slice A6 l.length c6) := by
    have := (heap_setCell_other (w2.setCell ⟨w.heap.size, 0, none⟩ (.slice A6 l.length c6)) ⟨w.heap.size + 1, 0, none⟩ w.heap.size (.bool true) (by show w.heap.size ≠ w.heap.size + 1; omega)).trans hP1; exact ba_ this 0
   have hc2 : ((w2.setCell ⟨w.heap.size, 0, none⟩ (.slice A6 l.length c6)).setCell ⟨w.heap.size + 1, 0, none⟩ (.bool true)).cell? ⟨w.heap.size + 1, 0, none⟩ = some (.bool true) := ba_ (sa_ hQ1 0 (.bool true)) 0; have hB2 : Below w.heap.size w ((w2.setCell ⟨w.heap.size, 0, none⟩ (.slice A6 l.length c6)).setCell ⟨w.heap.size + 1, 0, none⟩ (.bool true)) := Below.setCell (p := ⟨w.heap.size + 1, 0, none⟩) (Below.setCell (p := ⟨w.heap.size, 0, none⟩) HBW.out (Nat.le_refl _) _) (by show w.heap.size ≤ w.heap.size + 1; omega) _; have HV : VDec w (some l) (.slice A6 l.length c6) ((w2.setCell ⟨w.heap.size, 0, none⟩ (.slice A6 l.length c6)).setCell ⟨w.heap.size + 1, 0, none⟩ (.bool true)) := Kd.R_mono (Kd.R_far (Kd.R_far HR2.out (p := ⟨w.heap.size, 0, none⟩) (fun k hk => by have := HZ3.out; show k ≠ w.heap.size; omega) _) (p := ⟨w.heap.size + 1, 0, none⟩) (fun k hk => by have := HZ3.out; show k ≠ w.heap.size + 1; omega) _) (fun k hk => by have := HZ3.out; omega); generalize (w2.setCell ⟨w.heap.size, 0, none⟩ (.slice A6 l.length c6)).setCell ⟨w.heap.size + 1, 0, none⟩ (.bool true) = w3 at *; rw [HD.out]; simp [Leaves, settle, results, Tryz.results15, go_sem, hc1, hc2]; exact ⟨HV, hB2⟩
theorem ar_ (A0 : Option Addr) (c0 : Nat) (l0 : List S48) (w : World) (hr0 : Kd.C k48 w A0 l0.length l0) (hl : l0.length * 48 ≤ 140737488355328) :
  Calls Tryz.prog 115 #[.slice A0 l0.length c0] w fun e w' => ∃ v0_ : Value, e = .returned (v0_) ∧ Kd.R k48 48 w' w.heap.size (fun _ => True) v0_ l0 ∧ Below w.heap.size w w' := by
 have q22 : ∀ (w : World) (a : Option Addr) (n c n' c' : Nat), (binOp .eql 50 (.slice a n c) (.slice none n' c')).run Tryz.prog w = .ok (.bool a.isNone) w := fun w a n c n' c' => Lib.run_eql_slice_nil w _ _ a n c n' c' Tryz.underlying50
 have HR := aM_ hr0
 have HL := aM_ hl
 clear hr0 hl
 cases A0 with
 | none =>
  have h0 : l0 = [] := by
   cases l0 with
   | nil => rfl
   | cons x l => obtain ⟨ad, e, _⟩ := HR.out.2.2 (by simp); cases e
  subst h0
  go_enter Tryz.func115, Tryz.ntmps115
  go_wp2
  go_ret
  exact ⟨_, rfl, Kd.R_nil _ _ _ _ _, Below.refl _ _⟩
 | some ad =>
  have HM : Az (Kd.R k48 48 (w.alloc (.cells #[] 48)) w.heap.size (fun _ => True) (.slice (some ⟨w.heap.size, 0, none⟩) 0 0) []) := ⟨Kd.R_mono (Kd.R_of_own0 w (Nat.le_refl _) (Nat.le_refl _)) (fun _ _ => trivial)⟩; have HCA : Az (Kd.C k48 (w.alloc (.cells #[] 48)) (some ad) l0.length l0) := ⟨Kd.C_below HR.out (aa_ (Below.refl _ _) _)⟩
  go_enter Tryz.func115, Tryz.ntmps115
  go_wp2_with (at_builtin; go_loud (refine Kd.R_append_rows k48 (w0 := w) w.heap.size rfl (.tmp 5) (.tmp 6) 50 48 (.agg #[.int .i64 0, .string ⟨#[]⟩, .int .i64 0, .int .i64 0, .int .i64 0]) 48 rfl Tryz.underlying50 (by kernel_rfl) rfl (by show 0 < 5; decide) (by decide) (.slice (some ⟨w.heap.size, 0, none⟩) 0 0) [] l0 (some ad) l0.length c0 (fun _ => True) (fun _ => False) rfl rfl HM.out HCA.out (fun _ _ h => h) (fun _ h => h.elim) (fun _ _ => trivial) (aa_ (Below.refl _ _) _) (by simp) (by have := HL.out; simp; omega) ?_); intro v1 w1 ho hb hg hat)
  have ho' : Kd.R k48 48 w1 w.heap.size (fun _ => True) v1 l0 := ho; have HO := aM_ ho'; have HB := aM_ hb; clear ho ho' hb hg hat
  go_wp2
  go_ret
  exact ⟨_, rfl, HO.out, HB.out⟩
theorem Kd.R_up {α : Type} {d : Kd α} {e b : Nat} {w : World} {v : Value} {xs : List α} (h : d.R e w b (fun _ => True) v xs) {s : Nat} (hs : s ≤ b) : d.R e w s (fun k => s ≤ k) v xs := Kd.R_lower (Kd.R_mono (Kd.R_bound h) (fun k hk => Nat.le_trans hs hk.2.1)) hs
theorem ju_ (x : S56) (A1 A3 : Option Addr) (c1 c3 : Nat) (w : World) (hr1 : Kd.C (Kd.int .i64) w A1 x.f1.length x.f1) (hc1 : x.f1.length ≤ c1) (hr3 : Kd.C (Kd.int .i64) w A3 x.f2.f1.length x.f2.f1) (hc3 : x.f2.f1.length ≤ c3) (hb1 : x.f1.length ≤ 1000000) (hb3 : x.f2.f1.length ≤ 1000000) :
  Calls Tryz.prog 59 #[.agg #[.int .i64 x.f0, .slice A1 x.f1.length c1, .int .i64 x.f2.f0, .slice A3 x.f2.f1.length c3, .int .i64 x.f3]] w fun e w' => ∃ B1 d1 B3 d3, e = .returned (.agg #[.int .i64 x.f0, .slice B1 x.f1.length d1, .int .i64 x.f2.f0, .slice B3 x.f2.f1.length d3, .int .i64 x.f3]) ∧ Kd.R (Kd.int .i64) 3 w' w.heap.size (fun k => w.heap.size ≤ k) (.slice B1 x.f1.length d1) x.f1 ∧ Kd.R (Kd.int .i64) 3 w' w.heap.size (fun k => w.heap.size ≤ k) (.slice B3 x.f2.f1.length d3) x.f2.f1 ∧ Below w.heap.size w w' := by
 obtain ⟨f0, y1, ⟨f2, y3⟩, f3⟩ := x
 simp only at hr1 hc1 hr3 hc3 hb1 hb3
 have hu1 := Tryz.underlying56
 have hu2 := Tryz.underlying54
 have HG : Az (((w.alloc (.cells #[.int .i64 f0, .slice A1 y1.length c1, .int .i64 f2, .slice A3 y3.length c3, .int .i64 f3] 56)).alloc (.cells #[.int .i64 0, .slice none 0 0, .int .i64 0, .slice none 0 0, .int .i64 0] 56)).heap[w.heap.size]? = some (.cells #[.int .i64 f0, .slice A1 y1.length c1, .int .i64 f2, .slice A3 y3.length c3, .int .i64 f3] 56 (0, 0))) := ⟨oa_ (ra_ w _) (aa_ (Below.refl _ _) _)⟩
 have HZ : Az (((w.alloc (.cells #[.int .i64 f0, .slice A1 y1.length c1, .int .i64 f2, .slice A3 y3.length c3, .int .i64 f3] 56)).alloc (.cells #[.int .i64 0, .slice none 0 0, .int .i64 0, .slice none 0 0, .int .i64 0] 56)).heap[w.heap.size + 1]? = some (.cells #[.int .i64 0, .slice none 0 0, .int .i64 0, .slice none 0 0, .int .i64 0] 56 (0, 0))) := ⟨by have := ra_ (w.alloc (.cells #[.int .i64 f0, .slice A1 y1.length c1, .int .i64 f2, .slice A3 y3.length c3, .int .i64 f3] 56)) (.cells #[.int .i64 0, .slice none 0 0, .int .i64 0, .slice none 0 0, .int .i64 0] 56); simpa using this⟩
 have HB2 : Az (Below w.heap.size w ((w.alloc (.cells #[.int .i64 f0, .slice A1 y1.length c1, .int .i64 f2, .slice A3 y3.length c3, .int .i64 f3] 56)).alloc (.cells #[.int .i64 0, .slice none 0 0, .int .i64 0, .slice none 0 0, .int .i64 0] 56))) := ⟨aa_ (aa_ (Below.refl _ _) _) _⟩
 have HC1 : Az (∀ W, Below ((w.alloc (.cells #[.int .i64 f0, .slice A1 y1.length c1, .int .i64 f2, .slice A3 y3.length c3, .int .i64 f3] 56)).alloc (.cells #[.int .i64 0, .slice none 0 0, .int .i64 0, .slice none 0 0, .int .i64 0] 56)).heap.size ((w.alloc (.cells #[.int .i64 f0, .slice A1 y1.length c1, .int .i64 f2, .slice A3 y3.length c3, .int .i64 f3] 56)).alloc (.cells #[.int .i64 0, .slice none 0 0, .int .i64 0, .slice none 0 0, .int .i64 0] 56)) W → Calls Tryz.prog 112 #[.slice A1 y1.length c1] W fun e w' => ∃ v, e = .returned v ∧ Kd.R (Kd.int .i64) 3 w' (w.heap.size + 2) (fun k => w.heap.size + 2 ≤ k) v y1 ∧ Below W.heap.size W w') := ⟨fun W hW => by
  have hBw := fa_ HB2.out hW; refine (slices_Clone_int_int.calls A1 c1 y1 y1 W (Kd.C_below hr1 hBw) hc1 (by unfold slices_Clone_int_int.f; rw [if_pos (by omega)])).mono ?_; rintro e w' ⟨v, rfl, hR, hb⟩
  exact ⟨v, rfl, Kd.R_up hR (by have := hW.size; simpa using this), hb⟩⟩
 have HC3 : Az (∀ W, Below ((w.alloc (.cells #[.int .i64 f0, .slice A1 y1.length c1, .int .i64 f2, .slice A3 y3.length c3, .int .i64 f3] 56)).alloc (.cells #[.int .i64 0, .slice none 0 0, .int .i64 0, .slice none 0 0, .int .i64 0] 56)).heap.size ((w.alloc (.cells #[.int .i64 f0, .slice A1 y1.length c1, .int .i64 f2, .slice A3 y3.length c3, .int .i64 f3] 56)).alloc (.cells #[.int .i64 0, .slice none 0 0, .int .i64 0, .slice none 0 0, .int .i64 0] 56)) W → Calls Tryz.prog 112 #[.slice A3 y3.length c3] W fun e w' => ∃ v, e = .returned v ∧ Kd.R (Kd.int .i64) 3 w' (w.heap.size + 2) (fun k => w.heap.size + 2 ≤ k) v y3 ∧ Below W.heap.size W w') := ⟨fun W hW => by
  have hBw := fa_ HB2.out hW; refine (slices_Clone_int_int.calls A3 c3 y3 y3 W (Kd.C_below hr3 hBw) hc3 (by unfold slices_Clone_int_int.f; rw [if_pos (by omega)])).mono ?_; rintro e w' ⟨v, rfl, hR, hb⟩
  exact ⟨v, rfl, Kd.R_up hR (by have := hW.size; simpa using this), hb⟩⟩
 clear hr1 hc1 hr3 hc3 hb1 hb3
 go_enter Tryz.func59, Tryz.ntmps59
 go_wp2_with fail
 generalize (w.alloc (.cells #[.int .i64 f0, .slice A1 y1.length c1, .int .i64 f2, .slice A3 y3.length c3, .int .i64 f3] 56)).alloc (.cells #[.int .i64 0, .slice none 0 0, .int .i64 0, .slice none 0 0, .int .i64 0] 56) = W2 at *
 generalize hgg : w.heap.size = g at *
 have hg1 : W2.cell? ⟨g, 1, none⟩ = some (.slice A1 y1.length c1) := ba_ HG.out 1
 have hg3 : W2.cell? ⟨g, 3, none⟩ = some (.slice A3 y3.length c3) := ba_ HG.out 3
 refine wd_ (n := 12) (S := fun w' => w'.cell? ⟨g, 1, none⟩ = some (.slice A1 y1.length c1) ∧ w'.cell? ⟨g, 3, none⟩ = some (.slice A3 y3.length c3) ∧ Az (Below W2.heap.size W2 w')) (ds := [8, 11]) (f_ 12 0) (by kernel_rfl) rfl rfl ⟨hg1, hg3, ⟨ca_ (Below.refl _ _) 1⟩⟩ (fun hHeld => ?_)
 generalize W2.drew = w3 at *
 refine pU_ 0 3 ?_ (f_ 12 1) rfl rfl (by kernel_rfl) (fun _ _ _ h => h) (by rfl) ?_ ?_ ?_ ?_
 rotate_left
 ·intro w'
  go_simp; try with_reducible rfl
 rotate_left
 ·simp only [Act.put, s1_, s2_, s3_, ia_, ja_]
  rfl
 refine tA_ 1 4 ?_ (f_ 12 2) rfl rfl (by kernel_rfl) (fun _ _ _ h => h) (by rfl) ?_ hHeld ?_ ?_ ?_
 rotate_left
 ·rintro w' ⟨s0, s1, s2⟩
  go_simp; try with_reducible rfl
 rotate_left
 ·simp only [Act.put, s1_, s2_, s3_, ia_, ja_]
  rfl
 refine pU_ 3 6 ?_ #[true, true, false, true, false, false, false, false, false, false, false, false] rfl rfl (by kernel_rfl) (fun _ _ _ h => h) (by rfl) ?_ ?_ ?_ ?_
 rotate_left
 ·intro w'
  go_simp; try with_reducible rfl
 rotate_left
 ·simp only [Act.put, s1_, s2_, s3_, ia_, ja_]
  rfl
 refine pU_ 4 7 ?_ #[true, true, false, true, true, false, false, false, false, false, false, false] rfl rfl (by kernel_rfl) (fun _ _ _ h => h) (by rfl) ?_ ?_ ?_ ?_
 rotate_left
 ·intro w'
  go_simp; try with_reducible rfl
 rotate_left
 ·simp only [Act.put, s1_, s2_, s3_, ia_, ja_]
  rfl
 refine tA_ 5 8 ?_ #[true, true, false, true, true, true, false, false, false, false, false, false] rfl rfl (by kernel_rfl) (fun _ _ _ h => h) (by rfl) ?_ hHeld ?_ ?_ ?_
 rotate_left
 ·rintro w' ⟨s0, s1, s2⟩
  go_simp; try with_reducible rfl
 rotate_left
 ·simp only [Act.put, s1_, s2_, s3_, ia_, ja_]
  rfl
 refine one_ (i := 2) (N := some 5) (f_ 12 6) rfl rfl (by kernel_rfl) (by decide) (fun K hK => ?_)
 refine wb_ Tryz.func112 (by kernel_rfl) rfl #[.slice A1 y1.length c1] (by rfl) rfl rfl (by (try simp only [List.map_toArray, List.map_cons, List.map_nil]); rfl) ?_
 refine (HC1.out _ hHeld.2.2.out).mono ?_
 rintro e w4 ⟨v1, rfl, hR, hB⟩
 obtain ⟨B1, d1, hs1⟩ := Kd.R_slice hR
 subst hs1
 have HR1 := aM_ hR
 refine ⟨_, rfl, ?_⟩
 refine hK.out _ _ ⟨ha_ hB hHeld.1, ha_ hB hHeld.2.1, ⟨fa_ hHeld.2.2.out hB⟩⟩ (fun hHeld => ?_)
 clear hK K
 refine wa_ (a' := ?_) ?_ ?_
 rotate_left
 ·show Act.put _ (some 5) _ = _
  simp only [Act.put, s1_, s2_, s3_, ia_, ja_]; rfl
 refine pU_ 7 10 ?_ #[true, true, true, true, true, true, false, true, false, false, false, false] rfl rfl (by kernel_rfl) (fun _ _ _ h => h) (by rfl) ?_ ?_ ?_ ?_
 rotate_left
 ·intro w'
  go_simp; try with_reducible rfl
 rotate_left
 ·simp only [Act.put, s1_, s2_, s3_, ia_, ja_]
  rfl
 refine one_ (i := 6) (N := some 9) (f_ 12 8) rfl rfl (by kernel_rfl) (by decide) (fun K hK => ?_)
 refine wb_ Tryz.func112 (by kernel_rfl) rfl #[.slice A3 y3.length c3] (by rfl) rfl rfl (by (try simp only [List.map_toArray, List.map_cons, List.map_nil]); rfl) ?_
 refine (HC3.out _ hHeld.2.2.out).mono ?_
 rintro e w5 ⟨v3, rfl, hR, hB⟩
 obtain ⟨B3, d3, hs3⟩ := Kd.R_slice hR
 subst hs3
 have HR3 := aM_ hR
 have HR1B := aM_ (Kd.R_below HR1.out hB)
 have HG5 := aM_ (oa_ HG.out (fa_ hHeld.2.2.out hB))
 have HZ5 := aM_ (oa_ HZ.out (fa_ hHeld.2.2.out hB))
 refine ⟨_, rfl, ?_⟩
 refine hK.out _ _ ⟨ha_ hB hHeld.1, ha_ hB hHeld.2.1, ⟨fa_ hHeld.2.2.out hB⟩⟩ (fun hHeld => ?_)
 clear hK K
 refine wa_ (a' := ?_) ?_ ?_
 rotate_left
 ·show Act.put _ (some 9) _ = _
  simp only [Act.put, s1_, s2_, s3_, ia_, ja_]; rfl
 refine qg_ (i := 8) (N := none) (f_ 12 9) rfl rfl (by kernel_rfl) (by decide) (fun K hK => ?_)
 have hz3 := hHeld.1
 have hz5 := hHeld.2.1
 have hy3 := da_ HG5.out 1
 have hy5 := da_ HG5.out 3
 refine og_ (w1 := ?_) (by rfl) rfl ?_ ?_
 rotate_left
 ·go_simp
  rfl
 refine hK.out _ _ ?_
 clear hK K
 refine pU_ 9 11 ?_ (f_ 12 10) rfl rfl (by kernel_rfl) (fun _ _ _ h => h) (by rfl) ?_ ?_ ?_ ?_
 rotate_left
 ·intro w'
  go_simp; try with_reducible rfl
 rotate_left
 ·simp only [Act.put, s1_, s2_, s3_, ia_, ja_]
  rfl
 refine pU_ 10 12 ?_ (f_ 12 11) rfl rfl (by kernel_rfl) (fun _ _ _ h => h) (by rfl) ?_ ?_ ?_ ?_
 rotate_left
 ·intro w'
  go_simp; try with_reducible rfl
 rotate_left
 ·simp only [Act.put, s1_, s2_, s3_, ia_, ja_]
  rfl
 refine qg_ (i := 11) (N := none) (f_ 12 12) rfl rfl (by kernel_rfl) (by decide) (fun K hK => ?_)
 refine og_ (w1 := ?_) (by rfl) rfl ?_ ?_
 rotate_left
 ·go_simp
  rfl
 refine hK.out _ _ ?_
 clear hK K
 refine je_ (by kernel_rfl) ?_
 have HB5 := hHeld.2.2
 have hle : w.heap.size ≤ g := by omega
 have HLG := aM_ hle
 have HGG := aM_ hgg
 have HW5 : Az (Below w.heap.size w w5) := ⟨fa_ (by rw [hgg]; exact HB2.out) HB5.out⟩
 have HG7 : Az (((w5.setCell ⟨g, 1, none⟩ (.slice B1 y1.length d1)).setCell ⟨g, 3, none⟩ (.slice B3 y3.length d3)).heap[g]? = some (.cells #[.int .i64 f0, .slice B1 y1.length d1, .int .i64 f2, .slice B3 y3.length d3, .int .i64 f3] 56 (0, 0))) := ⟨by simpa using sa_ (sa_ HG5.out 1 (.slice B1 y1.length d1)) 3 (.slice B3 y3.length d3)⟩
 have HZ7 : Az (((w5.setCell ⟨g, 1, none⟩ (.slice B1 y1.length d1)).setCell ⟨g, 3, none⟩ (.slice B3 y3.length d3)).heap[g + 1]? = some (.cells #[.int .i64 0, .slice none 0 0, .int .i64 0, .slice none 0 0, .int .i64 0] 56 (0, 0))) := ⟨(heap_setCell_other _ ⟨g, 3, none⟩ _ _ (Nat.succ_ne_self g)).trans ((heap_setCell_other w5 ⟨g, 1, none⟩ _ _ (Nat.succ_ne_self g)).trans HZ5.out)⟩
 have HW7 : Az (Below w.heap.size w ((w5.setCell ⟨g, 1, none⟩ (.slice B1 y1.length d1)).setCell ⟨g, 3, none⟩ (.slice B3 y3.length d3))) := ⟨Below.setCell (p := ⟨g, 3, none⟩) (Below.setCell (p := ⟨g, 1, none⟩) HW5.out hle _) hle _⟩
 have HR7 := aM_ (Kd.R_far (Kd.R_far HR1B.out (p := ⟨g, 1, none⟩) (fun q hq => by show q ≠ g; omega) (.slice B1 y1.length d1)) (p := ⟨g, 3, none⟩) (fun q hq => by show q ≠ g; omega) (.slice B3 y3.length d3))
 have HR8 := aM_ (Kd.R_far (Kd.R_far HR3.out (p := ⟨g, 1, none⟩) (fun q hq => by show q ≠ g; omega) (.slice B1 y1.length d1)) (p := ⟨g, 3, none⟩) (fun q hq => by show q ≠ g; omega) (.slice B3 y3.length d3))
 generalize ((w5.setCell ⟨g, 1, none⟩ (.slice B1 y1.length d1)).setCell ⟨g, 3, none⟩ (.slice B3 y3.length d3)) = w7 at *
 clear hHeld HB5 HW5 HG5 HZ5 HR1 HR1B HR3 HG HZ HB2 HC1 HC3 hg1 hg3 hz3 hz5 hy3 hy5 hle hgg
 have ha0 := ba_ HG7.out 0
 have hb0 := ba_ HZ7.out 0
 have hf0 := da_ HZ7.out 0
 have ha1 := ba_ HG7.out 1
 have hb1 := ba_ HZ7.out 1
 have hf1 := da_ HZ7.out 1
 have ha2 := ba_ HG7.out 2
 have hb2 := ba_ HZ7.out 2
 have hf2 := da_ HZ7.out 2
 have ha3 := ba_ HG7.out 3
 have hb3 := ba_ HZ7.out 3
 have hf3 := da_ HZ7.out 3
 have ha4 := ba_ HG7.out 4
 have hb4 := ba_ HZ7.out 4
 have hf4 := da_ HZ7.out 4
 go_wp2
 have hb7 : (((((w7.setCell ⟨g + 1, 0, none⟩ (.int .i64 f0)).setCell ⟨g + 1, 1, none⟩ (.slice B1 y1.length d1)).setCell ⟨g + 1, 2, none⟩ (.int .i64 f2)).setCell ⟨g + 1, 3, none⟩ (.slice B3 y3.length d3)).setCell ⟨g + 1, 4, none⟩ (.int .i64 f3)).heap[g + 1]? = some (.cells #[.int .i64 f0, .slice B1 y1.length d1, .int .i64 f2, .slice B3 y3.length d3, .int .i64 f3] 56 (0, 0)) := by simpa using (sa_ (sa_ (sa_ (sa_ (sa_ HZ7.out 0 (.int .i64 f0)) 1 (.slice B1 y1.length d1)) 2 (.int .i64 f2)) 3 (.slice B3 y3.length d3)) 4 (.int .i64 f3))
 have hR := HGG.out
 refine bodyPost_ret (results_cell_row rfl _ _ (g + 1) 56 #[.int .i64 f0, .slice B1 y1.length d1, .int .i64 f2, .slice B3 y3.length d3, .int .i64 f3] (0, 0) _ rfl hb7 Tryz.underlying56 rfl (by kernel_rfl)) rfl ?_
 refine ⟨_, _, _, _, rfl, Kd.R_mono (Kd.R_lower (Kd.R_far (Kd.R_far (Kd.R_far (Kd.R_far (Kd.R_far HR7.out (p := ⟨g + 1, 0, none⟩) (fun q hq => by show q ≠ g + 1; omega) (.int .i64 f0)) (p := ⟨g + 1, 1, none⟩) (fun q hq => by show q ≠ g + 1; omega) (.slice B1 y1.length d1)) (p := ⟨g + 1, 2, none⟩) (fun q hq => by show q ≠ g + 1; omega) (.int .i64 f2)) (p := ⟨g + 1, 3, none⟩) (fun q hq => by show q ≠ g + 1; omega) (.slice B3 y3.length d3)) (p := ⟨g + 1, 4, none⟩) (fun q hq => by show q ≠ g + 1; omega) (.int .i64 f3)) (by omega)) (fun q hq => by have hq2 : g + 2 ≤ q := hq; show w.heap.size ≤ q; omega), Kd.R_mono (Kd.R_lower (Kd.R_far (Kd.R_far (Kd.R_far (Kd.R_far (Kd.R_far HR8.out (p := ⟨g + 1, 0, none⟩) (fun q hq => by show q ≠ g + 1; omega) (.int .i64 f0)) (p := ⟨g + 1, 1, none⟩) (fun q hq => by show q ≠ g + 1; omega) (.slice B1 y1.length d1)) (p := ⟨g + 1, 2, none⟩) (fun q hq => by show q ≠ g + 1; omega) (.int .i64 f2)) (p := ⟨g + 1, 3, none⟩) (fun q hq => by show q ≠ g + 1; omega) (.slice B3 y3.length d3)) (p := ⟨g + 1, 4, none⟩) (fun q hq => by show q ≠ g + 1; omega) (.int .i64 f3)) (by omega)) (fun q hq => by have hq2 : g + 2 ≤ q := hq; show w.heap.size ≤ q; omega), (Below.setCell (p := ⟨g + 1, 4, none⟩) (Below.setCell (p := ⟨g + 1, 3, none⟩) (Below.setCell (p := ⟨g + 1, 2, none⟩) (Below.setCell (p := ⟨g + 1, 1, none⟩) (Below.setCell (p := ⟨g + 1, 0, none⟩) HW7.out (Nat.le_succ_of_le HLG.out) (.int .i64 f0)) (Nat.le_succ_of_le HLG.out) (.slice B1 y1.length d1)) (Nat.le_succ_of_le HLG.out) (.int .i64 f2)) (Nat.le_succ_of_le HLG.out) (.slice B3 y3.length d3)) (Nat.le_succ_of_le HLG.out) (.int .i64 f3))⟩
theorem ur_ (x : S52) (A1 : Option Addr) (c1 : Nat) (w : World) (hr1 : Kd.C k48 w A1 x.f1.length x.f1) (hb1 : x.f1.length ≤ 1000000) :
  Calls Tryz.prog 64 #[.agg #[.int .i64 x.f0, .slice A1 x.f1.length c1]] w fun e w' => ∃ B1 d1, e = .returned (.agg #[.int .i64 x.f0, .slice B1 x.f1.length d1]) ∧ Kd.R k48 48 w' w.heap.size (fun k => w.heap.size ≤ k) (.slice B1 x.f1.length d1) x.f1 ∧ Below w.heap.size w w' := by
 obtain ⟨f0, y1⟩ := x
 simp only at hr1 hb1
 have hu1 := Tryz.underlying52
 have HG : Az (((w.alloc (.cells #[.int .i64 f0, .slice A1 y1.length c1] 52)).alloc (.cells #[.int .i64 0, .slice none 0 0] 52)).heap[w.heap.size]? = some (.cells #[.int .i64 f0, .slice A1 y1.length c1] 52 (0, 0))) := ⟨oa_ (ra_ w _) (aa_ (Below.refl _ _) _)⟩
 have HZ : Az (((w.alloc (.cells #[.int .i64 f0, .slice A1 y1.length c1] 52)).alloc (.cells #[.int .i64 0, .slice none 0 0] 52)).heap[w.heap.size + 1]? = some (.cells #[.int .i64 0, .slice none 0 0] 52 (0, 0))) := ⟨by have := ra_ (w.alloc (.cells #[.int .i64 f0, .slice A1 y1.length c1] 52)) (.cells #[.int .i64 0, .slice none 0 0] 52); simpa using this⟩
 have HB2 : Az (Below w.heap.size w ((w.alloc (.cells #[.int .i64 f0, .slice A1 y1.length c1] 52)).alloc (.cells #[.int .i64 0, .slice none 0 0] 52))) := ⟨aa_ (aa_ (Below.refl _ _) _) _⟩
 have HC1 : Az (∀ W, Below ((w.alloc (.cells #[.int .i64 f0, .slice A1 y1.length c1] 52)).alloc (.cells #[.int .i64 0, .slice none 0 0] 52)).heap.size ((w.alloc (.cells #[.int .i64 f0, .slice A1 y1.length c1] 52)).alloc (.cells #[.int .i64 0, .slice none 0 0] 52)) W → Calls Tryz.prog 115 #[.slice A1 y1.length c1] W fun e w' => ∃ v, e = .returned v ∧ Kd.R k48 48 w' (w.heap.size + 2) (fun k => w.heap.size + 2 ≤ k) v y1 ∧ Below W.heap.size W w') := ⟨fun W hW => by
  have hBw := fa_ HB2.out hW; refine (ar_ A1 c1 y1 W (Kd.C_below hr1 hBw) (by omega)).mono ?_; rintro e w' ⟨v, rfl, hR, hb⟩
  exact ⟨v, rfl, Kd.R_up hR (by have := hW.size; simpa using this), hb⟩⟩
 clear hr1 hb1
 go_enter Tryz.func64, Tryz.ntmps64
 go_wp2_with fail
 generalize (w.alloc (.cells #[.int .i64 f0, .slice A1 y1.length c1] 52)).alloc (.cells #[.int .i64 0, .slice none 0 0] 52) = W2 at *
 generalize hgg : w.heap.size = g at *
 have hg1 : W2.cell? ⟨g, 1, none⟩ = some (.slice A1 y1.length c1) := ba_ HG.out 1
 go_wp2_with fail
 refine (HC1.out W2 (Below.refl _ _)).mono ?_
 rintro e w5 ⟨v1, rfl, hR, hB⟩
 obtain ⟨B1, d1, hs1⟩ := Kd.R_slice hR
 subst hs1
 have HR1 := aM_ hR
 have HG5 := aM_ (oa_ HG.out hB)
 have HZ5 := aM_ (oa_ HZ.out hB)
 have HB5 := aM_ hB
 clear hR hB
 have hle : w.heap.size ≤ g := by omega
 have HLG := aM_ hle
 have HGG := aM_ hgg
 have HW5 : Az (Below w.heap.size w w5) := ⟨fa_ (by rw [hgg]; exact HB2.out) HB5.out⟩
 have HG7 : Az ((w5.setCell ⟨g, 1, none⟩ (.slice B1 y1.length d1)).heap[g]? = some (.cells #[.int .i64 f0, .slice B1 y1.length d1] 52 (0, 0))) := ⟨by simpa using sa_ HG5.out 1 (.slice B1 y1.length d1)⟩
 have HZ7 : Az ((w5.setCell ⟨g, 1, none⟩ (.slice B1 y1.length d1)).heap[g + 1]? = some (.cells #[.int .i64 0, .slice none 0 0] 52 (0, 0))) := ⟨(heap_setCell_other w5 ⟨g, 1, none⟩ _ _ (Nat.succ_ne_self g)).trans HZ5.out⟩
 have HW7 : Az (Below w.heap.size w (w5.setCell ⟨g, 1, none⟩ (.slice B1 y1.length d1))) := ⟨Below.setCell (p := ⟨g, 1, none⟩) HW5.out hle _⟩
 have HR7 := aM_ (Kd.R_far HR1.out (p := ⟨g, 1, none⟩) (fun q hq => by show q ≠ g; omega) (.slice B1 y1.length d1))
 have hz3 := ba_ HG5.out 1
 have hy3 := da_ HG5.out 1
 clear HB5 HW5 HG5 HZ5 HR1 HG HZ HB2 HC1 hg1 hle hgg
 have ha0 := ba_ HG7.out 0
 have hb0 := ba_ HZ7.out 0
 have hf0 := da_ HZ7.out 0
 have ha1 := ba_ HG7.out 1
 have hb1 := ba_ HZ7.out 1
 have hf1 := da_ HZ7.out 1
 go_wp2
 have hb7 : (((w5.setCell ⟨g, 1, none⟩ (.slice B1 y1.length d1)).setCell ⟨g + 1, 0, none⟩ (.int .i64 f0)).setCell ⟨g + 1, 1, none⟩ (.slice B1 y1.length d1)).heap[g + 1]? = some (.cells #[.int .i64 f0, .slice B1 y1.length d1] 52 (0, 0)) := by simpa using (sa_ (sa_ HZ7.out 0 (.int .i64 f0)) 1 (.slice B1 y1.length d1))
 have hR := HGG.out
 refine bodyPost_ret (results_cell_row rfl _ _ (g + 1) 52 #[.int .i64 f0, .slice B1 y1.length d1] (0, 0) _ rfl hb7 Tryz.underlying52 rfl (by kernel_rfl)) rfl ?_
 refine ⟨_, _, rfl, Kd.R_mono (Kd.R_lower (Kd.R_far (Kd.R_far HR7.out (p := ⟨g + 1, 0, none⟩) (fun q hq => by show q ≠ g + 1; omega) (.int .i64 f0)) (p := ⟨g + 1, 1, none⟩) (fun q hq => by show q ≠ g + 1; omega) (.slice B1 y1.length d1)) (by omega)) (fun q hq => by have hq2 : g + 2 ≤ q := hq; show w.heap.size ≤ q; omega), (Below.setCell (p := ⟨g + 1, 1, none⟩) (Below.setCell (p := ⟨g + 1, 0, none⟩) HW7.out (Nat.le_succ_of_le HLG.out) (.int .i64 f0)) (Nat.le_succ_of_le HLG.out) (.slice B1 y1.length d1))⟩
theorem ik_ (A : Option Addr) (c : Nat) (l : List S56) (w : World) (hr : Kd.C k56 w A l.length l) (hl : l.length ≤ 1000000) (hb : ∀ x ∈ l, x.f1.length ≤ 1000000 ∧ x.f2.f1.length ≤ 1000000) :
  Calls Tryz.prog 58 #[.slice A l.length c, .func (.func 59) #[] #[]] w fun e w' => ∃ v, e = .returned v ∧ Kd.R k56 56 w' w.heap.size (fun k => w.heap.size ≤ k) v l ∧ Below w.heap.size w w' := by
 have hmf : ∀ (fn : Fn) (first cap : Array Value) (w : World), (Instr.makeFunc fn first cap).run Tryz.prog w = .ok (.func fn first cap) w := fun _ _ _ _ => rfl
 have HR := aM_ hr
 have HL := aM_ hl
 have HB := aM_ hb
 have hu1 := Tryz.underlying56
 have hu2 := Tryz.underlying54
 clear hr hb
 have HX0 : Az (Kd.R k56 56 w w.heap.size (fun k => w.heap.size ≤ k) (.slice none 0 0) (l.take 0)) := ⟨Kd.R_nil _ _ _ _ _⟩
 go_enter Tryz.func58, Tryz.ntmps58
 go_wp2
 go_loopg [5, 10] l.length (fun gg s5 s10 wr => ∃ i : Nat, i ≤ l.length ∧ l.length - i ≤ gg ∧ s10 = .int .i64 i ∧ Az (Kd.R k56 56 wr w.heap.size (fun k => w.heap.size ≤ k) s5 (l.take i)) ∧ Az (Below w.heap.size w wr))
 case atStart => exact ⟨0, by omega, by omega, rfl, HX0, ⟨Below.refl _ _⟩⟩
 clear HX0
 obtain ⟨i, hi, hgg, rfl, HX, HW⟩ := hrel
 obtain ⟨A6, c6, hs6⟩ := Kd.R_slice HX.out
 subst hs6
 by_cases hil : i < l.length
 ·have hilz : (i : Int) < (l.length : Int) := by omega
  obtain ⟨ad, A1, c1, A3, c3, hA, e0, e1, e2, e3, e4, l1, g1, l3, g3⟩ := bj_ HR.out (i : Int) (by omega) hilz; subst hA; rw [Int.toNat_natCast] at e0 e1 e2 e3 e4
  have hy : yb_ l (i : Int) = l[i] := by
   show l.getD (i : Int).toNat _ = _; rw [Int.toNat_natCast, List.getD_eq_getElem?_getD, List.getElem?_eq_getElem hil]; rfl
  have hbx := HB.out l[i] (List.getElem_mem hil); have hxs : l.take (i + 1) = l.take i ++ [l[i]] := List.take_succ_eq_append_getElem hil; rw [← hy] at hbx hxs; generalize yb_ l (i : Int) = x at *; have HXS := aM_ hxs; have HXL : Az ((l.take i).length = i) := ⟨by rw [List.length_take]; omega⟩; generalize l.take i = xs at *; have HBA := aM_ (aa_ (Below.refl wr.heap.size wr) (.cells #[.int .i64 x.f0, .slice A1 x.f1.length c1, .int .i64 x.f2.f0, .slice A3 x.f2.f1.length c3, .int .i64 x.f3] 56)); have HQ := aM_ (ju_ x A1 A3 c1 c3 (wr.alloc (.cells #[.int .i64 x.f0, .slice A1 x.f1.length c1, .int .i64 x.f2.f0, .slice A3 x.f2.f1.length c3, .int .i64 x.f3] 56)) (Kd.C_below g1 (fa_ HW.out HBA.out)) l1 (Kd.C_below g3 (fa_ HW.out HBA.out)) l3 hbx.1 hbx.2); replace e0 := ha_ HW.out e0; replace e1 := ha_ HW.out e1; replace e2 := ha_ HW.out e2; replace e3 := ha_ HW.out e3; replace e4 := ha_ HW.out e4; have HL1 := aM_ l1; have HL3 := aM_ l3; clear hy hbx hxs g1 g3 l1 l3
  go_wp2_with fail
  refine HQ.out.mono ?_; rintro e w3 ⟨B1, d1, B3, d3, rfl, hR1, hR3, hb⟩; have hbw := fa_ HBA.out hb; have HX1 := aM_ (Kd.R_below HX.out hbw); have HW1 : Az (Below w.heap.size w w3) := ⟨fa_ HW.out hbw⟩; have hsz : wr.heap.size ≤ (wr.alloc (.cells #[.int .i64 x.f0, .slice A1 x.f1.length c1, .int .i64 x.f2.f0, .slice A3 x.f2.f1.length c3, .int .i64 x.f3] 56)).heap.size := HBA.out.size; have hM : Kd.M k56 w3 w.heap.size (fun k => wr.heap.size ≤ k) x [.int .i64 x.f0, .slice B1 x.f1.length d1, .int .i64 x.f2.f0, .slice B3 x.f2.f1.length d3, .int .i64 x.f3] := ll_ _ _ _ x (Kd.R_lower (Kd.R_mono hR1 (fun k hk => Nat.le_trans hsz hk)) (Nat.le_trans HW.out.size hsz)) (Kd.R_lower (Kd.R_mono hR3 (fun k hk => Nat.le_trans hsz hk)) (Nat.le_trans HW.out.size hsz)); have HM := aM_ hM; have HSZ := aM_ HW.out.size; have HSY := aM_ (Nat.le_trans hsz hb.size); have HOW : Az (∀ k, (Value.slice A6 xs.length c6).ownBlock = some k → k < wr.heap.size) := ⟨fun k hk => Kd.R_lt HX.out k hk⟩; clear hR1 hR3 hb hbw hsz hM HQ HX HBA e0 e1 e2 e3 e4 HL1 HL3
  go_wp2_with (at_builtin; go_loud (refine Kd.R_append k56 (w0 := w) w.heap.size rfl (.tmp 14) (.tmp 18) 41 56 (.agg #[.int .i64 0, .slice none 0 0, .int .i64 0, .slice none 0 0, .int .i64 0]) 72 rfl Tryz.underlying41 (by kernel_rfl) rfl (by show 0 < 5; decide) (by decide) (.slice A6 xs.length c6) xs x [.int .i64 x.f0, .slice B1 x.f1.length d1, .int .i64 x.f2.f0, .slice B3 x.f2.f1.length d3, .int .i64 x.f3] (fun k => w.heap.size ≤ k) (fun k => wr.heap.size ≤ k) rfl rfl HM.out ?hok ?hf HX1.out ?hB ?hb ?hl ?_); (case hok => go_loud (exact (fun k hk => ⟨Nat.le_trans HSZ.out hk, fun e => by have := HOW.out k e.symm; omega⟩))); (case hf => go_loud (exact (fun k hk => by have := HSZ.out; have := HSY.out; omega))); (case hB => go_loud (exact HW1.out)); (case hb => go_loud (exact HW1.out.size)); (case hl => go_loud (have := HXL.out; have := HL.out; omega)); intro v4 w4 ho hb hg hat)
  have HX5 : Az (Kd.R k56 56 w4 w.heap.size (fun k => w.heap.size ≤ k) v4 (l.take (i + 1))) := ⟨by rw [HXS.out]; exact ho⟩; have HW5 := aM_ hb; clear ho hb hg hat HM HX1 HW1 HOW HSZ HSY HXL HXS; obtain ⟨A7, c7, hs7⟩ := Kd.R_slice HX5.out; subst hs7
  go_wp2
  go_roundg (l.length - (i + 1))
  case measure => omega
  case rel => exact ⟨i + 1, by omega, by omega, by go_num, HX5, HW5⟩
 have he : i = l.length := by omega
 have hilz : decide ((i : Int) < (l.length : Int)) = false := by simp; omega
 have hilz' : decide (i < l.length) = false := by simp; omega
 have htk : l.take i = l := by rw [he, List.take_length]
 rw [htk] at HX
 have HCL := aM_ (cloneR A6 c6 l wr w.heap.size w.heap.size HX.out HW.out.size HW.out.size (by omega))
 rw [htk]
 clear he htk HX
 go_wp2_with fail
 refine HCL.out.mono ?_
 rintro e w5 ⟨v5, rfl, hR5, hB5⟩
 have HO := aM_ hR5
 have HWF : Az (Below w.heap.size w w5) := ⟨fa_ HW.out hB5⟩
 clear hR5 hB5 HCL
 go_wp2
 go_ret
 exact ⟨_, rfl, HO.out, HWF.out⟩
theorem ru_ (A : Option Addr) (c : Nat) (l : List S52) (w : World) (hr : Kd.C k52 w A l.length l) (hl : l.length ≤ 1000000) (hb : ∀ x ∈ l, x.f1.length ≤ 1000000) :
  Calls Tryz.prog 63 #[.slice A l.length c, .func (.func 64) #[] #[]] w fun e w' => ∃ v, e = .returned v ∧ Kd.R k52 52 w' w.heap.size (fun k => w.heap.size ≤ k) v l ∧ Below w.heap.size w w' := by
 have hmf : ∀ (fn : Fn) (first cap : Array Value) (w : World), (Instr.makeFunc fn first cap).run Tryz.prog w = .ok (.func fn first cap) w := fun _ _ _ _ => rfl
 have HR := aM_ hr
 have HL := aM_ hl
 have HB := aM_ hb
 have hu1 := Tryz.underlying52
 clear hr hb
 have HX0 : Az (Kd.R k52 52 w w.heap.size (fun k => w.heap.size ≤ k) (.slice none 0 0) (l.take 0)) := ⟨Kd.R_nil _ _ _ _ _⟩
 go_enter Tryz.func63, Tryz.ntmps63
 go_wp2
 go_loopg [5, 10] l.length (fun gg s5 s10 wr => ∃ i : Nat, i ≤ l.length ∧ l.length - i ≤ gg ∧ s10 = .int .i64 i ∧ Az (Kd.R k52 52 wr w.heap.size (fun k => w.heap.size ≤ k) s5 (l.take i)) ∧ Az (Below w.heap.size w wr))
 case atStart => exact ⟨0, by omega, by omega, rfl, HX0, ⟨Below.refl _ _⟩⟩
 clear HX0
 obtain ⟨i, hi, hgg, rfl, HX, HW⟩ := hrel
 obtain ⟨A6, c6, hs6⟩ := Kd.R_slice HX.out
 subst hs6
 by_cases hil : i < l.length
 ·have hilz : (i : Int) < (l.length : Int) := by omega
  obtain ⟨ad, A1, c1, hA, e0, e1, l1, g1⟩ := ip_ HR.out (i : Int) (by omega) hilz; subst hA; rw [Int.toNat_natCast] at e0 e1
  have hy : he_ l (i : Int) = l[i] := by
   show l.getD (i : Int).toNat _ = _; rw [Int.toNat_natCast, List.getD_eq_getElem?_getD, List.getElem?_eq_getElem hil]; rfl
  have hbx := HB.out l[i] (List.getElem_mem hil); have hxs : l.take (i + 1) = l.take i ++ [l[i]] := List.take_succ_eq_append_getElem hil; rw [← hy] at hbx hxs; generalize he_ l (i : Int) = x at *; have HXS := aM_ hxs; have HXL : Az ((l.take i).length = i) := ⟨by rw [List.length_take]; omega⟩; generalize l.take i = xs at *; have HBA := aM_ (aa_ (Below.refl wr.heap.size wr) (.cells #[.int .i64 x.f0, .slice A1 x.f1.length c1] 52)); have HQ := aM_ (ur_ x A1 c1 (wr.alloc (.cells #[.int .i64 x.f0, .slice A1 x.f1.length c1] 52)) (Kd.C_below g1 (fa_ HW.out HBA.out)) hbx); replace e0 := ha_ HW.out e0; replace e1 := ha_ HW.out e1; have HL1 := aM_ l1; clear hy hbx hxs g1 l1
  go_wp2_with fail
  refine HQ.out.mono ?_; rintro e w3 ⟨B1, d1, rfl, hR1, hb⟩; have hbw := fa_ HBA.out hb; have HX1 := aM_ (Kd.R_below HX.out hbw); have HW1 : Az (Below w.heap.size w w3) := ⟨fa_ HW.out hbw⟩; have hsz : wr.heap.size ≤ (wr.alloc (.cells #[.int .i64 x.f0, .slice A1 x.f1.length c1] 52)).heap.size := HBA.out.size; have hM : Kd.M k52 w3 w.heap.size (fun k => wr.heap.size ≤ k) x [.int .i64 x.f0, .slice B1 x.f1.length d1] := ap_ _ _ _ x (Kd.R_lower (Kd.R_mono hR1 (fun k hk => Nat.le_trans hsz hk)) (Nat.le_trans HW.out.size hsz)); have HM := aM_ hM; have HSZ := aM_ HW.out.size; have HSY := aM_ (Nat.le_trans hsz hb.size); have HOW : Az (∀ k, (Value.slice A6 xs.length c6).ownBlock = some k → k < wr.heap.size) := ⟨fun k hk => Kd.R_lt HX.out k hk⟩; clear hR1 hb hbw hsz hM HQ HX HBA e0 e1 HL1
  go_wp2_with (at_builtin; go_loud (refine Kd.R_append k52 (w0 := w) w.heap.size rfl (.tmp 14) (.tmp 18) 42 52 (.agg #[.int .i64 0, .slice none 0 0]) 32 rfl Tryz.underlying42 (by kernel_rfl) rfl (by show 0 < 2; decide) (by decide) (.slice A6 xs.length c6) xs x [.int .i64 x.f0, .slice B1 x.f1.length d1] (fun k => w.heap.size ≤ k) (fun k => wr.heap.size ≤ k) rfl rfl HM.out ?hok ?hf HX1.out ?hB ?hb ?hl ?_); (case hok => go_loud (exact (fun k hk => ⟨Nat.le_trans HSZ.out hk, fun e => by have := HOW.out k e.symm; omega⟩))); (case hf => go_loud (exact (fun k hk => by have := HSZ.out; have := HSY.out; omega))); (case hB => go_loud (exact HW1.out)); (case hb => go_loud (exact HW1.out.size)); (case hl => go_loud (have := HXL.out; have := HL.out; omega)); intro v4 w4 ho hb hg hat)
  have HX5 : Az (Kd.R k52 52 w4 w.heap.size (fun k => w.heap.size ≤ k) v4 (l.take (i + 1))) := ⟨by rw [HXS.out]; exact ho⟩; have HW5 := aM_ hb; clear ho hb hg hat HM HX1 HW1 HOW HSZ HSY HXL HXS; obtain ⟨A7, c7, hs7⟩ := Kd.R_slice HX5.out; subst hs7
  go_wp2
  go_roundg (l.length - (i + 1))
  case measure => omega
  case rel => exact ⟨i + 1, by omega, by omega, by go_num, HX5, HW5⟩
 have he : i = l.length := by omega
 have hilz : decide ((i : Int) < (l.length : Int)) = false := by simp; omega
 have hilz' : decide (i < l.length) = false := by simp; omega
 have htk : l.take i = l := by rw [he, List.take_length]
 rw [htk] at HX
 have HCL := aM_ (vs_ A6 c6 l wr w.heap.size w.heap.size HX.out HW.out.size HW.out.size (by omega))
 rw [htk]
 clear he htk HX
 go_wp2_with fail
 refine HCL.out.mono ?_
 rintro e w5 ⟨v5, rfl, hR5, hB5⟩
 have HO := aM_ hR5
 have HWF : Az (Below w.heap.size w w5) := ⟨fa_ HW.out hB5⟩
 clear hR5 hB5 HCL
 go_wp2
 go_ret
 exact ⟨_, rfl, HO.out, HWF.out⟩
theorem rows_M {w W : World} {b s c : Nat} {A : Option Addr} {l : List S52} (h : Kd.R k52 52 w b (fun k => s ≤ k) (.slice A l.length c) l) (hW : Below w.heap.size w W) : ReadsRow (Kd.M k52 W b (fun k => s ≤ k ∧ k < w.heap.size)) (Kd.sz k52) W A l.length l := by
 obtain ⟨A1, c1, e1, _, hc1⟩ := OwnRow.reads h.2
 injection e1 with e1
 subst e1
 exact hc1.imp_ hW (fun x cs hm => Kd.M_below (Kd.M_mono _ (fun k hk => ⟨hk.1.1, hk.2.2.1⟩) (Kd.M_bound _ hm)) hW)
theorem ln_ (g : Nat) (A1 A2 : Option Addr) (c1 c2 : Nat) (l1 l2 : List S52) (w : World) (hg0 : w.cell? ⟨g, 0, none⟩ = some (.slice A1 l1.length c1)) (hg1 : w.cell? ⟨g, 1, none⟩ = some (.slice A2 l2.length c2)) (s b : Nat) (hs : s ≤ w.heap.size) (hb : b ≤ w.heap.size) (h1 : Kd.R k52 52 w b (fun k => s ≤ k) (.slice A1 l1.length c1) l1) (h2 : Kd.R k52 52 w b (fun k => s ≤ k) (.slice A2 l2.length c2) l2) (hn : l1.length + l2.length ≤ 1000000) :
  Calls Tryz.prog 62 #[.slice (some ⟨g, 0, none⟩) 2 2] w fun e w' => ∃ v, e = .returned v ∧ Kd.R k52 52 w' b (fun k => s ≤ k) v (l1 ++ l2) ∧ Below w.heap.size w w' := by
 have HN := aM_ hn
 have HC1 := aM_ (fun W (hW : Below w.heap.size w W) => rows_M h1 hW)
 have HC2 := aM_ (fun W (hW : Below w.heap.size w W) => rows_M h2 hW)
 have HS := aM_ hs
 have HBB := aM_ hb
 have HG0 := aM_ hg0
 have HG1 := aM_ hg1
 have hw1 : wrap64 ((0 : Int) + (l1.length : Int)) = (l1.length : Int) := by rw [wrap64]; omega
 have hw1' : wrap64 (l1.length : Int) = (l1.length : Int) := by rw [wrap64]; omega
 have hw2 : wrap64 ((l1.length : Int) + (l2.length : Int)) = ((l1.length + l2.length : Nat) : Int) := by rw [wrap64]; omega
 have hn1 : decide ((l1.length : Int) < 0) = false := decide_eq_false (by omega)
 have hn2 : decide (((l1.length + l2.length : Nat) : Int) < 0) = false := decide_eq_false (by omega)
 clear hn h1 h2 hg0 hg1 hs hb
 go_enter Tryz.func62, Tryz.ntmps62
 go_wp2
 go_loopg [11, 3] 2 (fun gg s11 s3 wr => ∃ i m : Nat, 2 - i ≤ gg ∧ s11 = .int .i64 i ∧ s3 = .int .i64 m ∧ ((i = 0 ∧ m = 0) ∨ (i = 1 ∧ m = l1.length) ∨ (i = 2 ∧ m = l1.length + l2.length)) ∧ Az (Below w.heap.size w wr))
 case atStart => exact ⟨0, 0, by omega, rfl, rfl, .inl ⟨rfl, rfl⟩, ⟨Below.refl _ _⟩⟩
 obtain ⟨i, m, hgg, rfl, rfl, hcs, HW⟩ := hrel
 rcases hcs with ⟨rfl, rfl⟩ | ⟨rfl, rfl⟩ | ⟨rfl, rfl⟩
 ·have r0 := ha_ HW.out HG0.out
  go_wp2
  go_roundg 1
  case measure => omega
  case rel => exact ⟨1, l1.length, by omega, by go_num, by first | rfl | (simp [hw1]; done) | go_num, .inr (.inl ⟨rfl, rfl⟩), HW⟩
 ·have r1 := ha_ HW.out HG1.out
  go_wp2
  go_roundg 0
  case measure => omega
  case rel => exact ⟨2, l1.length + l2.length, by omega, by go_num, by first | rfl | (simp [hw2]; done) | go_num, .inr (.inr ⟨rfl, rfl⟩), HW⟩
 have HGR := aM_ (os_ (l1.length + l2.length) wr HN.out)
 clear hn1 hn2 hw1 hw1' hw2
 go_wp2_with fail
 refine HGR.out.mono ?_
 rintro e w2 ⟨v, rfl, hR, hB⟩
 have HR0 := aM_ (Kd.R_mono (ok' := fun k => s ≤ k) (Kd.R_lower hR (Nat.le_trans HBB.out HW.out.size)) (fun k hk => Nat.le_trans HS.out (Nat.le_trans HW.out.size hk)))
 have HO0 : Az (∀ k, v.ownBlock = some k → w.heap.size ≤ k) := ⟨fun k hk => Nat.le_trans HW.out.size (Kd.R_base hR k hk)⟩
 have HW2 : Az (Below w.heap.size w w2) := ⟨fa_ HW.out hB⟩
 clear hR hB HGR
 go_wp2
 go_loopg [27, 6] 2 (fun gg s27 s6 wr => ∃ (i : Nat) (xs : List S52), 2 - i ≤ gg ∧ s27 = .int .i64 i ∧ ((i = 0 ∧ xs = []) ∨ (i = 1 ∧ xs = l1) ∨ (i = 2 ∧ xs = l1 ++ l2)) ∧ Az (Kd.R k52 52 wr b (fun k => s ≤ k) s6 xs) ∧ Az (∀ k, s6.ownBlock = some k → w.heap.size ≤ k) ∧ Az (Below w.heap.size w wr))
 case atStart => exact ⟨0, [], by omega, rfl, .inl ⟨rfl, rfl⟩, HR0, HO0, HW2⟩
 clear HR0 HW2 HO0
 obtain ⟨i, xs, hgg, rfl, hcs, HR, HO, HW⟩ := hrel
 obtain ⟨A6, c6, hs6⟩ := Kd.R_slice HR.out
 subst hs6
 rcases hcs with ⟨rfl, rfl⟩ | ⟨rfl, rfl⟩ | ⟨rfl, rfl⟩
 ·have r0 := ha_ HW.out HG0.out
  have HCC := aM_ (HC1.out wr HW.out)
  go_wp2_with (at_builtin; go_loud (refine Kd.R_append_rows k52 (w0 := w) b rfl (.tmp 31) (.tmp 32) 42 52 (.agg #[.int .i64 0, .slice none 0 0]) 32 rfl Tryz.underlying42 (by kernel_rfl) rfl (by show 0 < 2; decide) (by decide) (.slice A6 0 c6) [] l1 A1 l1.length c1 (fun k => s ≤ k) (fun k => s ≤ k ∧ k < w.heap.size) rfl rfl HR.out HCC.out (fun _ _ h => h) (fun k hk => ⟨hk.1, fun e => by have := HO.out k e.symm; omega⟩) (fun k hk => Nat.le_trans HS.out (Nat.le_trans HW.out.size hk)) (HW.out.mono HBB.out) (Nat.le_trans HBB.out HW.out.size) (by have := HN.out; simp; omega) ?_); intro v1 w1 ho hb hg hat)
  have ho' : Kd.R k52 52 w1 b (fun k => s ≤ k) v1 l1 := ho; have HR1 := aM_ ho'; have HW1 : Az (Below w.heap.size w w1) := ⟨Below.grown HW.out hg HW.out.size (fun k hk => HO.out k hk)⟩
  have HO1 : Az (∀ k, v1.ownBlock = some k → w.heap.size ≤ k) := ⟨fun k hk => by
   rcases hat with e | ⟨z, e, hz⟩
   ·exact HO.out k (e ▸ hk)
   rw [e] at hk; injection hk with hk; have := HW.out.size
   omega⟩
  clear ho ho' hb hg hat HR HCC HO
  go_wp2
  go_roundg 1
  case measure => omega
  case rel => exact ⟨1, l1, by omega, by go_num, .inr (.inl ⟨rfl, rfl⟩), HR1, HO1, HW1⟩
 ·have r1 := ha_ HW.out HG1.out
  have HCC := aM_ (HC2.out wr HW.out)
  go_wp2_with (at_builtin; go_loud (refine Kd.R_append_rows k52 (w0 := w) b rfl (.tmp 31) (.tmp 32) 42 52 (.agg #[.int .i64 0, .slice none 0 0]) 32 rfl Tryz.underlying42 (by kernel_rfl) rfl (by show 0 < 2; decide) (by decide) (.slice A6 xs.length c6) xs l2 A2 l2.length c2 (fun k => s ≤ k) (fun k => s ≤ k ∧ k < w.heap.size) rfl rfl HR.out HCC.out (fun _ _ h => h) (fun k hk => ⟨hk.1, fun e => by have := HO.out k e.symm; omega⟩) (fun k hk => Nat.le_trans HS.out (Nat.le_trans HW.out.size hk)) (HW.out.mono HBB.out) (Nat.le_trans HBB.out HW.out.size) (by have := HN.out; omega) ?_); intro v1 w1 ho hb hg hat)
  have HR1 := aM_ ho; have HW1 : Az (Below w.heap.size w w1) := ⟨Below.grown HW.out hg HW.out.size (fun k hk => HO.out k hk)⟩
  have HO1 : Az (∀ k, v1.ownBlock = some k → w.heap.size ≤ k) := ⟨fun k hk => by
   rcases hat with e | ⟨z, e, hz⟩
   ·exact HO.out k (e ▸ hk)
   rw [e] at hk; injection hk with hk; have := HW.out.size
   omega⟩
  clear ho hb hg hat HR HCC HO
  go_wp2
  go_roundg 0
  case measure => omega
  case rel => exact ⟨2, xs ++ l2, by omega, by go_num, .inr (.inr ⟨rfl, rfl⟩), HR1, HO1, HW1⟩
 go_wp2
 go_ret
 exact ⟨_, rfl, HR.out, HW.out⟩
def sf_ (l : List S44) : Nat → Int → List S52 → List S52
 | 0, _, out => out
 | n + 1, a, out => if jb_ a 0 ((l.length : Int) - 1) = true then sf_ l n (td_ l a) ((ya_ l a).f5 ++ out) else out
def styP (l : List S44) (i : Nat) : List S52 := sf_ l (i + 1) i []
def wr_ (l : List S44) : Prop := l.length ≤ 100 ∧ ∀ x ∈ l, x.f3.length ≤ 1000 ∧ (x.f4.length ≤ 1000 ∧ ∀ r ∈ x.f4, r.f1.length ≤ 1000000 ∧ r.f2.f1.length ≤ 1000000) ∧ (x.f5.length ≤ 1000 ∧ ∀ t ∈ x.f5, t.f1.length ≤ 1000000)
theorem hj_ {l : List S44} (h : ∀ x ∈ l, x.f4.length ≤ 1000 ∧ ∀ r ∈ x.f4, r.f1.length ≤ 1000000 ∧ r.f2.f1.length ≤ 1000000) : ∀ (n : Nat) (a : Int) (out : List S56), (∀ r ∈ out, r.f1.length ≤ 1000000 ∧ r.f2.f1.length ≤ 1000000) → (gd_ l n a out).length ≤ out.length + 1000 * n ∧ ∀ r ∈ gd_ l n a out, r.f1.length ≤ 1000000 ∧ r.f2.f1.length ≤ 1000000
 | 0, _, out, ho => ⟨by rw [gd_]; omega, ho⟩
 | n + 1, a, out, ho => by
  rw [gd_]
  split
  ·rename_i hw
   have hr2 : 0 ≤ a ∧ a ≤ (l.length : Int) - 1 := by
    unfold jb_ at hw
    simpa using hw
   obtain ⟨k, rfl⟩ : ∃ k : Nat, a = (k : Int) := ⟨a.toNat, by omega⟩; have hk : k < l.length := by omega
   have hy : ya_ l (k : Int) = l[k] := by
    show l.getD (k : Int).toNat _ = _; rw [Int.toNat_natCast, List.getD_eq_getElem?_getD, List.getElem?_eq_getElem hk]; rfl
   have hx := h _ (List.getElem_mem hk); rw [← hy] at hx
   obtain ⟨h1, h2⟩ := hj_ h n (td_ l (k : Int)) ((ya_ l (k : Int)).f4 ++ out) (fun r hr => by
    rcases List.mem_append.1 hr with hr | hr
    ·exact hx.2 r hr
    exact ho r hr)
   refine ⟨?_, h2⟩; rw [List.length_append] at h1; omega
  exact ⟨by omega, ho⟩
theorem ji_ (A : Option Addr) (c : Nat) (l : List S44) (id : BA) (k : Nat) (w : World) (hr : Kd.C k44 w A l.length l) (hc : l.length ≤ c) (hok : wr_ l) (hi : xd_ (hitL id) l = (k : Int)) (hk : k < l.length) :
  Calls Tryz.prog 23 #[.slice A l.length c, .string id] w fun e w' => ∃ v3 v4 v5, e = .returned (.tuple #[.agg #[.string id, .int .i64 (ya_ l (k : Int)).f1, .int .i64 (ya_ l (k : Int)).f2, v3, v4, v5], .bool true]) ∧ Kd.R k46 46 w' w.heap.size (fun q => w.heap.size ≤ q) v3 (lexP l k) ∧ Kd.R k56 56 w' w.heap.size (fun q => w.heap.size ≤ q) v4 (me_ l k) ∧ Kd.R k52 52 w' w.heap.size (fun q => w.heap.size ≤ q) v5 (styP l k) ∧ Below w.heap.size w w' := by
 have hmf : ∀ (fn : Fn) (first cap : Array Value) (w : World), (Instr.makeFunc fn first cap).run Tryz.prog w = .ok (.func fn first cap) w := fun _ _ _ _ => rfl
 have hkz : (k : Int) < (l.length : Int) := by omega
 have hnk : decide ((k : Int) < 0) = false := decide_eq_false (by omega)
 have HR := aM_ hr
 have HC := aM_ hc
 have HOK := aM_ hok
 have HLL := aM_ hok.1
 have HK := aM_ hk
 have hrk := hj_ (fun x hx => (hok.2 x hx).2.1) (k + 1) k [] (by simp)
 have HRB : Az ((me_ l k).length ≤ 1000000 ∧ ∀ r ∈ me_ l k, r.f1.length ≤ 1000000 ∧ r.f2.f1.length ≤ 1000000) := ⟨⟨by have h1 := hrk.1; have h2 := hok.1; rw [List.length_nil] at h1; exact Nat.le_trans h1 (by omega), hrk.2⟩⟩
 have HRU : Az (∀ W, Below w.heap.size w W → Calls Tryz.prog 48 #[.slice A l.length c, .int .i64 k] W fun e w' => ∃ v : Value, e = .returned v ∧ Kd.N k56 56 w' W.heap.size (fun _ => True) v (me_ l k) ∧ Below W.heap.size W w') := ⟨fun W hB => ij_ A c l k W (Kd.C_below HR.out hB) HC.out hk (by have := hok.1; omega) (fun x hx => by have := (hok.2 x hx).2.1.1; omega)⟩
 clear hrk
 generalize me_ l k = RR at *
 have HB2 : Az (Below w.heap.size w ((w.alloc (.cells #[.string id] 9)).alloc (.cells #[.string ⟨#[]⟩, .int .i64 0, .int .i64 0, .slice none 0 0, .slice none 0 0, .slice none 0 0] 44))) := ⟨aa_ (aa_ (Below.refl _ _) _) _⟩
 have HP2 : Az (((w.alloc (.cells #[.string id] 9)).alloc (.cells #[.string ⟨#[]⟩, .int .i64 0, .int .i64 0, .slice none 0 0, .slice none 0 0, .slice none 0 0] 44)).heap[w.heap.size]? = some (.cells #[.string id] 9 (0, 0))) := ⟨oa_ (ra_ w _) (aa_ (Below.refl _ _) _)⟩
 have HS2 : Az (((w.alloc (.cells #[.string id] 9)).alloc (.cells #[.string ⟨#[]⟩, .int .i64 0, .int .i64 0, .slice none 0 0, .slice none 0 0, .slice none 0 0] 44)).heap[w.heap.size + 1]? = some (.cells #[.string ⟨#[]⟩, .int .i64 0, .int .i64 0, .slice none 0 0, .slice none 0 0, .slice none 0 0] 44 (0, 0))) := ⟨by have := ra_ (w.alloc (.cells #[.string id] 9)) (.cells #[.string ⟨#[]⟩, .int .i64 0, .int .i64 0, .slice none 0 0, .slice none 0 0, .slice none 0 0] 44); simpa using this⟩
 have HIX := aM_ (jg_ (.func (.func 57) #[] #[.pointer (some ⟨w.heap.size, 0, none⟩)]) A c l (hitL id) _ (Kd.C_below HR.out HB2.out) HC.out (nh_ w.heap.size id _ (ba_ HP2.out 0)))
 rw [hi] at HIX
 obtain ⟨ad, A3, c3, A4, c4, A5, c5, hA, h0, h1, h2, h3, h4, h5, l3, g3, l4, g4, l5, g5⟩ := lg_ hr (k : Int) (by omega) hkz
 rw [Int.toNat_natCast] at h0 h1 h2 h3 h4 h5
 generalize hp5 : (ya_ l (k : Int)).f1 = p5 at *
 generalize hd5 : (ya_ l (k : Int)).f2 = d5 at *
 subst hA
 have H1 := aM_ h1
 have H2 := aM_ h2
 clear hr hc hok hk hi h0 h1 h2 h3 h4 h5 l3 g3 l4 g4 l5 g5 hp5 hd5
 go_enter Tryz.func23, Tryz.ntmps23
 go_wp2_with fail
 generalize (w.alloc (.cells #[.string id] 9)).alloc (.cells #[.string ⟨#[]⟩, .int .i64 0, .int .i64 0, .slice none 0 0, .slice none 0 0, .slice none 0 0] 44) = W2 at *
 refine HIX.out.mono ?_
 rintro e W3 ⟨rfl, hB⟩
 replace HP2 := aM_ (oa_ HP2.out hB)
 replace HS2 := aM_ (oa_ HS2.out hB)
 replace HB2 : Az (Below w.heap.size w W3) := ⟨fa_ HB2.out hB⟩
 clear hB HIX
 have h0 : W3.cell? ⟨w.heap.size, 0, none⟩ = some (.string id) := ba_ HP2.out 0
 have h1 := ha_ HB2.out H1.out
 have h2 := ha_ HB2.out H2.out
 go_upto_region 4 with fail
 go_cut [7] (fun v7 wc => ∃ g : Nat, v7 = .pointer (some ⟨g, 0, none⟩) ∧ Az (w.heap.size + 2 ≤ g) ∧ ∃ (AM : Option Addr) (cM : Nat), Az (wc.heap[g]? = some (.cells #[.string id, .int .i64 p5, .int .i64 d5, .slice none 0 0, .slice AM RR.length cM, .slice none 0 0] 44 (0, 0))) ∧ Az (Kd.R k56 56 wc w.heap.size (fun q => w.heap.size + 2 ≤ q ∧ q ≠ g) (.slice AM RR.length cM) RR) ∧ Az (wc.heap[w.heap.size + 1]? = some (.cells #[.string ⟨#[]⟩, .int .i64 0, .int .i64 0, .slice none 0 0, .slice none 0 0, .slice none 0 0] 44 (0, 0))) ∧ Az (Below w.heap.size w wc))
 case first =>
  refine wd_ (n := 18) (S := fun w' => w'.cell? ⟨w.heap.size, 0, none⟩ = some (.string id) ∧ w'.cell? ⟨(ad.add (k * 6)).block, (ad.add (k * 6)).off + 1, none⟩ = some (.int .i64 p5) ∧ w'.cell? ⟨(ad.add (k * 6)).block, (ad.add (k * 6)).off + 2, none⟩ = some (.int .i64 d5) ∧ Az (w'.heap[w.heap.size + 1]? = some (.cells #[.string ⟨#[]⟩, .int .i64 0, .int .i64 0, .slice none 0 0, .slice none 0 0, .slice none 0 0] 44 (0, 0))) ∧ Az (Below w.heap.size w w')) (ds := [17]) (f_ 18 0) (by kernel_rfl) rfl rfl ⟨h0, h1, h2, HS2, ⟨ca_ HB2.out 1⟩⟩ (fun hHeld => ?_); generalize W3.drew = w3 at *; refine tA_ 0 14 ?_ (f_ 18 1) rfl rfl (by kernel_rfl) (fun _ _ _ h => h) (by rfl) ?_ hHeld ?_ ?_ ?_; rotate_left
  ·rintro w' ⟨s0, s1, s2, s3, s4⟩
   go_simp; try with_reducible rfl
  rotate_left
  ·simp only [Act.put, s1_, s2_, s3_, ia_, ja_]
   rfl
  refine pU_ 1 15 ?_ (f_ 18 2) rfl rfl (by kernel_rfl) (fun _ _ _ h => h) (by rfl) ?_ ?_ ?_ ?_; rotate_left
  ·intro w'
   go_simp; try with_reducible rfl
  rotate_left
  ·simp only [Act.put, s1_, s2_, s3_, ia_, ja_]
   rfl
  refine pU_ 2 16 ?_ (f_ 18 3) rfl rfl (by kernel_rfl) (fun _ _ _ h => h) (by rfl) ?_ ?_ ?_ ?_; rotate_left
  ·intro w'
   go_simp; try with_reducible rfl
  rotate_left
  ·simp only [Act.put, s1_, s2_, s3_, ia_, ja_]
   rfl
  refine pU_ 3 17 ?_ (f_ 18 4) rfl rfl (by kernel_rfl) (fun _ _ _ h => h) (by rfl) ?_ ?_ ?_ ?_; rotate_left
  ·intro w'
   go_simp; try with_reducible rfl
  rotate_left
  ·simp only [Act.put, s1_, s2_, s3_, ia_, ja_]
   rfl
  refine pU_ 4 18 ?_ (f_ 18 5) rfl rfl (by kernel_rfl) (fun _ _ _ h => h) (by rfl) ?_ ?_ ?_ ?_; rotate_left
  ·intro w'
   go_simp; try with_reducible rfl
  rotate_left
  ·simp only [Act.put, s1_, s2_, s3_, ia_, ja_]
   rfl
  refine tA_ 5 19 ?_ (f_ 18 6) rfl rfl (by kernel_rfl) (fun _ _ _ h => h) (by rfl) ?_ hHeld ?_ ?_ ?_; rotate_left
  ·rintro w' ⟨s0, s1, s2, s3, s4⟩
   go_simp; try with_reducible rfl
  rotate_left
  ·simp only [Act.put, s1_, s2_, s3_, ia_, ja_]
   rfl
  refine pU_ 6 20 ?_ (f_ 18 7) rfl rfl (by kernel_rfl) (fun _ _ _ h => h) (by rfl) ?_ ?_ ?_ ?_; rotate_left
  ·intro w'
   go_simp; try with_reducible rfl
  rotate_left
  ·simp only [Act.put, s1_, s2_, s3_, ia_, ja_]
   rfl
  refine pU_ 7 21 ?_ (f_ 18 8) rfl rfl (by kernel_rfl) (fun _ _ _ h => h) (by rfl) ?_ ?_ ?_ ?_; rotate_left
  ·intro w'
   go_simp; try with_reducible rfl
  rotate_left
  ·simp only [Act.put, s1_, s2_, s3_, ia_, ja_]
   rfl
  refine pU_ 8 22 ?_ (f_ 18 9) rfl rfl (by kernel_rfl) (fun _ _ _ h => h) (by rfl) ?_ ?_ ?_ ?_; rotate_left
  ·intro w'
   go_simp; try with_reducible rfl
  rotate_left
  ·simp only [Act.put, s1_, s2_, s3_, ia_, ja_]
   rfl
  refine pU_ 9 23 ?_ (f_ 18 10) rfl rfl (by kernel_rfl) (fun _ _ _ h => h) (by rfl) ?_ ?_ ?_ ?_; rotate_left
  ·intro w'
   go_simp; try with_reducible rfl
  rotate_left
  ·simp only [Act.put, s1_, s2_, s3_, ia_, ja_]
   rfl
  refine tA_ 10 24 ?_ (f_ 18 11) rfl rfl (by kernel_rfl) (fun _ _ _ h => h) (by rfl) ?_ hHeld ?_ ?_ ?_; rotate_left
  ·rintro w' ⟨s0, s1, s2, s3, s4⟩
   go_simp; try with_reducible rfl
  rotate_left
  ·simp only [Act.put, s1_, s2_, s3_, ia_, ja_]
   rfl
  refine pU_ 11 25 ?_ (f_ 18 12) rfl rfl (by kernel_rfl) (fun _ _ _ h => h) (by rfl) ?_ ?_ ?_ ?_; rotate_left
  ·intro w'
   go_simp; try with_reducible rfl
  rotate_left
  ·simp only [Act.put, s1_, s2_, s3_, ia_, ja_]
   rfl
  refine pU_ 12 26 ?_ (f_ 18 13) rfl rfl (by kernel_rfl) (fun _ _ _ h => h) (by rfl) ?_ ?_ ?_ ?_; rotate_left
  ·intro w'
   go_simp; try with_reducible rfl
  rotate_left
  ·simp only [Act.put, s1_, s2_, s3_, ia_, ja_]
   rfl
  refine two_ (i := 13) (j := 16) (Ni := some 27) (Nj := some 7) (f_ 18 14) #[true, true, true, true, true, true, true, true, true, true, true, true, true, false, false, false, true, false] rfl rfl rfl rfl (by kernel_rfl) (by decide) (by decide) (fun K hK => ?_) (fun K hK => ?_)
  ·refine wb_ Tryz.func48 (by kernel_rfl) rfl #[.slice (some ad) l.length c, .int .i64 k] (by rfl) rfl rfl (by (try simp only [List.map_toArray, List.map_cons, List.map_nil]); rfl) ?_
   refine (HRU.out _ hHeld.2.2.2.2.out).mono ?_; rintro e w4 ⟨v8, rfl, hN, hB⟩; obtain ⟨A8, c8, hs8⟩ := Kd.N_slice hN; subst hs8; have HN8 := aM_ (Kd.N_reads' hN).2.2; clear hN; refine ⟨_, rfl, ?_⟩; refine hK.out _ _ ⟨ha_ hB hHeld.1, ha_ hB hHeld.2.1, ha_ hB hHeld.2.2.1, ⟨oa_ hHeld.2.2.2.1.out hB⟩, ⟨fa_ hHeld.2.2.2.2.out hB⟩⟩ (fun hHeld => ?_); clear hK K; refine wa_ (a' := ?_) ?_ ?_; rotate_left
   ·show Act.put _ (some 27) _ = _
    simp only [Act.put, s1_, s2_, s3_, ia_, ja_]; rfl
   refine two_ (i := 14) (j := 16) (Ni := some 28) (Nj := some 7) (f_ 18 15) #[true, true, true, true, true, true, true, true, true, true, true, true, true, true, false, false, true, false] rfl rfl rfl rfl (by kernel_rfl) (by decide) (by decide) (fun K hK => ?_) (fun K hK => ?_)
   ·refine wb_ Tryz.func58 (by kernel_rfl) rfl #[.slice A8 RR.length c8, .func (.func 59) #[] #[]] (by rfl) rfl rfl (by (try simp only [List.map_toArray, List.map_cons, List.map_nil]); rfl) ?_
    refine (ik_ A8 c8 RR _ HN8.out HRB.out.1 HRB.out.2).mono ?_; rintro e w5 ⟨vM, rfl, hR, hB⟩; obtain ⟨AM, cM, hsM⟩ := Kd.R_slice hR; subst hsM; have HS2Z := Nat.succ_le_of_lt (za_ hHeld.2.2.2.1.out); have HRM := aM_ (Kd.R_lower (Kd.R_mono hR (ok' := fun q => w.heap.size + 2 ≤ q) (fun q hq => Nat.le_trans HS2Z hq)) (Nat.le_trans (Nat.le_add_right _ 2) HS2Z)); clear hR HS2Z; refine ⟨_, rfl, ?_⟩; refine hK.out _ _ ⟨ha_ hB hHeld.1, ha_ hB hHeld.2.1, ha_ hB hHeld.2.2.1, ⟨oa_ hHeld.2.2.2.1.out hB⟩, ⟨fa_ hHeld.2.2.2.2.out hB⟩⟩ (fun hHeld => ?_); clear hK K; refine wa_ (a' := ?_) ?_ ?_; rotate_left
    ·show Act.put _ (some 28) _ = _
     simp only [Act.put, s1_, s2_, s3_, ia_, ja_]; rfl
    refine pU_ 15 29 ?_ (f_ 18 16) rfl rfl (by kernel_rfl) (fun _ _ _ h => h) (by rfl) ?_ ?_ ?_ ?_; rotate_left
    ·intro w'
     go_simp; try with_reducible rfl
    rotate_left
    ·simp only [Act.put, s1_, s2_, s3_, ia_, ja_]
     rfl
    refine one_ (i := 16) (N := some 7) (f_ 18 17) rfl rfl (by kernel_rfl) (by decide) (fun K hK => ?_); refine hd_ (w1 := ?_) (v := ?_) (by rfl) rfl ?_ ?_; rotate_left 2
    ·go_simp
     constructor
     ·rfl
     rfl
    have hB := aa_ (Below.refl w5.heap.size w5) (.cells #[.string ⟨#[]⟩, .int .i64 0, .int .i64 0, .slice none 0 0, .slice none 0 0, .slice none 0 0] 44)
    (try replace HN8 := aM_ (Kd.C_below HN8.out hB))
    (try replace HRM := aM_ (Kd.R_below HRM.out hB))
    have HG := aM_ (ra_ w5 (.cells #[.string ⟨#[]⟩, .int .i64 0, .int .i64 0, .slice none 0 0, .slice none 0 0, .slice none 0 0] 44)); have HZ : Az (w.heap.size + 2 ≤ w5.heap.size) := ⟨by have := za_ hHeld.2.2.2.1.out; omega⟩; refine hK.out _ _ ⟨ha_ hB hHeld.1, ha_ hB hHeld.2.1, ha_ hB hHeld.2.2.1, ⟨oa_ hHeld.2.2.2.1.out hB⟩, ⟨fa_ hHeld.2.2.2.2.out hB⟩⟩ (fun hHeld => ?_); clear hK K; generalize hgg : w5.heap.size = g at *; generalize w5.alloc (.cells #[.string ⟨#[]⟩, .int .i64 0, .int .i64 0, .slice none 0 0, .slice none 0 0, .slice none 0 0] 44) = W9 at *; have hK := trivial; have K := trivial; clear hK K; refine wa_ (a' := ?_) ?_ ?_; rotate_left
    ·show Act.put _ (some 7) _ = _
     simp only [Act.put, s1_, s2_, s3_, ia_, ja_]; rfl
    refine qg_ (i := 17) (N := none) (f_ 18 18) rfl rfl (by kernel_rfl) (by decide) (fun K hK => ?_); generalize W9 = w6 at *; have hz0 : w6.cell? ⟨g, 0, none⟩ = some (.string ⟨#[]⟩) := (ba_ HG.out 0).trans rfl; have hy0 := da_ HG.out 0; have hz1 : w6.cell? ⟨g, 1, none⟩ = some (.int .i64 0) := (ba_ HG.out 1).trans rfl; have hy1 := da_ HG.out 1; have hz2 : w6.cell? ⟨g, 2, none⟩ = some (.int .i64 0) := (ba_ HG.out 2).trans rfl; have hy2 := da_ HG.out 2; have hz3 : w6.cell? ⟨g, 3, none⟩ = some (.slice none 0 0) := (ba_ HG.out 3).trans rfl; have hy3 := da_ HG.out 3; have hz4 : w6.cell? ⟨g, 4, none⟩ = some (.slice none 0 0) := (ba_ HG.out 4).trans rfl; have hy4 := da_ HG.out 4; have hz5 : w6.cell? ⟨g, 5, none⟩ = some (.slice none 0 0) := (ba_ HG.out 5).trans rfl; have hy5 := da_ HG.out 5; refine og_ (w1 := ?_) (by rfl) rfl ?_ ?_; rotate_left
    ·go_simp
     rfl
    refine hK.out _ _ ?_; clear hK K; refine je_ (by kernel_rfl) ?_; have HGE : Az (w.heap.size ≤ g) := ⟨by have := HZ.out; omega⟩; have HW6 := hHeld.2.2.2.2; have HF : Az (((((((w6.setCell ⟨g, 0, none⟩ (.string id)).setCell ⟨g, 1, none⟩ (.int .i64 p5)).setCell ⟨g, 2, none⟩ (.int .i64 d5)).setCell ⟨g, 3, none⟩ (.slice none 0 0)).setCell ⟨g, 4, none⟩ (.slice AM RR.length cM)).setCell ⟨g, 5, none⟩ (.slice none 0 0)).heap[g]? = some (.cells #[.string id, .int .i64 p5, .int .i64 d5, .slice none 0 0, .slice AM RR.length cM, .slice none 0 0] 44 (0, 0))) := ⟨by simpa using (sa_ (sa_ (sa_ (sa_ (sa_ (sa_ HG.out 0 (.string id)) 1 (.int .i64 p5)) 2 (.int .i64 d5)) 3 (.slice none 0 0)) 4 (.slice AM RR.length cM)) 5 (.slice none 0 0))⟩; have HBF : Az (Below w.heap.size w ((((((w6.setCell ⟨g, 0, none⟩ (.string id)).setCell ⟨g, 1, none⟩ (.int .i64 p5)).setCell ⟨g, 2, none⟩ (.int .i64 d5)).setCell ⟨g, 3, none⟩ (.slice none 0 0)).setCell ⟨g, 4, none⟩ (.slice AM RR.length cM)).setCell ⟨g, 5, none⟩ (.slice none 0 0))) := ⟨(Below.setCell (p := ⟨g, 5, none⟩) (Below.setCell (p := ⟨g, 4, none⟩) (Below.setCell (p := ⟨g, 3, none⟩) (Below.setCell (p := ⟨g, 2, none⟩) (Below.setCell (p := ⟨g, 1, none⟩) (Below.setCell (p := ⟨g, 0, none⟩) HW6.out HGE.out (.string id)) HGE.out (.int .i64 p5)) HGE.out (.int .i64 d5)) HGE.out (.slice none 0 0)) HGE.out (.slice AM RR.length cM)) HGE.out (.slice none 0 0))⟩; have HSF : Az (((((((w6.setCell ⟨g, 0, none⟩ (.string id)).setCell ⟨g, 1, none⟩ (.int .i64 p5)).setCell ⟨g, 2, none⟩ (.int .i64 d5)).setCell ⟨g, 3, none⟩ (.slice none 0 0)).setCell ⟨g, 4, none⟩ (.slice AM RR.length cM)).setCell ⟨g, 5, none⟩ (.slice none 0 0)).heap[w.heap.size + 1]? = some (.cells #[.string ⟨#[]⟩, .int .i64 0, .int .i64 0, .slice none 0 0, .slice none 0 0, .slice none 0 0] 44 (0, 0))) := ⟨((heap_setCell_other (((((w6.setCell ⟨g, 0, none⟩ (.string id)).setCell ⟨g, 1, none⟩ (.int .i64 p5)).setCell ⟨g, 2, none⟩ (.int .i64 d5)).setCell ⟨g, 3, none⟩ (.slice none 0 0)).setCell ⟨g, 4, none⟩ (.slice AM RR.length cM)) ⟨g, 5, none⟩ (w.heap.size + 1) (.slice none 0 0) (by have := HZ.out; show w.heap.size + 1 ≠ g; omega)).trans ((heap_setCell_other ((((w6.setCell ⟨g, 0, none⟩ (.string id)).setCell ⟨g, 1, none⟩ (.int .i64 p5)).setCell ⟨g, 2, none⟩ (.int .i64 d5)).setCell ⟨g, 3, none⟩ (.slice none 0 0)) ⟨g, 4, none⟩ (w.heap.size + 1) (.slice AM RR.length cM) (by have := HZ.out; show w.heap.size + 1 ≠ g; omega)).trans ((heap_setCell_other (((w6.setCell ⟨g, 0, none⟩ (.string id)).setCell ⟨g, 1, none⟩ (.int .i64 p5)).setCell ⟨g, 2, none⟩ (.int .i64 d5)) ⟨g, 3, none⟩ (w.heap.size + 1) (.slice none 0 0) (by have := HZ.out; show w.heap.size + 1 ≠ g; omega)).trans ((heap_setCell_other ((w6.setCell ⟨g, 0, none⟩ (.string id)).setCell ⟨g, 1, none⟩ (.int .i64 p5)) ⟨g, 2, none⟩ (w.heap.size + 1) (.int .i64 d5) (by have := HZ.out; show w.heap.size + 1 ≠ g; omega)).trans ((heap_setCell_other (w6.setCell ⟨g, 0, none⟩ (.string id)) ⟨g, 1, none⟩ (w.heap.size + 1) (.int .i64 p5) (by have := HZ.out; show w.heap.size + 1 ≠ g; omega)).trans ((heap_setCell_other w6 ⟨g, 0, none⟩ (w.heap.size + 1) (.string id) (by have := HZ.out; show w.heap.size + 1 ≠ g; omega)).trans hHeld.2.2.2.1.out))))))⟩
    have HRN := Kd.R_types HRM.out HG.out (by decide); have HRF := aM_ (Kd.R_mono (Kd.R_far (Kd.R_far (Kd.R_far (Kd.R_far (Kd.R_far (Kd.R_far HRN (p := ⟨g, 0, none⟩) (fun q hq => hq.2) (.string id)) (p := ⟨g, 1, none⟩) (fun q hq => hq.2) (.int .i64 p5)) (p := ⟨g, 2, none⟩) (fun q hq => hq.2) (.int .i64 d5)) (p := ⟨g, 3, none⟩) (fun q hq => hq.2) (.slice none 0 0)) (p := ⟨g, 4, none⟩) (fun q hq => hq.2) (.slice AM RR.length cM)) (p := ⟨g, 5, none⟩) (fun q hq => hq.2) (.slice none 0 0)) (ok' := fun q => w.heap.size + 2 ≤ q ∧ q ≠ g) (fun q hq => hq)); generalize ((((((w6.setCell ⟨g, 0, none⟩ (.string id)).setCell ⟨g, 1, none⟩ (.int .i64 p5)).setCell ⟨g, 2, none⟩ (.int .i64 d5)).setCell ⟨g, 3, none⟩ (.slice none 0 0)).setCell ⟨g, 4, none⟩ (.slice AM RR.length cM)).setCell ⟨g, 5, none⟩ (.slice none 0 0)) = w7 at *; clear hHeld HRN
    go_wp2_with fail
    go_meet
    case rel => exact ⟨g, rfl, HZ, AM, cM, HF, HRF, HSF, HBF⟩
   refine hd_ (w1 := ?_) (v := ?_) (by rfl) rfl ?_ ?_; rotate_left 2
   ·go_simp
    constructor
    ·rfl
    rfl
   have hB := aa_ (Below.refl w4.heap.size w4) (.cells #[.string ⟨#[]⟩, .int .i64 0, .int .i64 0, .slice none 0 0, .slice none 0 0, .slice none 0 0] 44)
   (try replace HN8 := aM_ (Kd.C_below HN8.out hB))
   (try replace HRM := aM_ (Kd.R_below HRM.out hB))
   have HG := aM_ (ra_ w4 (.cells #[.string ⟨#[]⟩, .int .i64 0, .int .i64 0, .slice none 0 0, .slice none 0 0, .slice none 0 0] 44)); have HZ : Az (w.heap.size + 2 ≤ w4.heap.size) := ⟨by have := za_ hHeld.2.2.2.1.out; omega⟩; refine hK.out _ _ ⟨ha_ hB hHeld.1, ha_ hB hHeld.2.1, ha_ hB hHeld.2.2.1, ⟨oa_ hHeld.2.2.2.1.out hB⟩, ⟨fa_ hHeld.2.2.2.2.out hB⟩⟩ (fun hHeld => ?_); clear hK K; generalize hgg : w4.heap.size = g at *; generalize w4.alloc (.cells #[.string ⟨#[]⟩, .int .i64 0, .int .i64 0, .slice none 0 0, .slice none 0 0, .slice none 0 0] 44) = W9 at *; have hK := trivial; have K := trivial; clear hK K; refine wa_ (a' := ?_) ?_ ?_; rotate_left
   ·show Act.put _ (some 7) _ = _
    simp only [Act.put, s1_, s2_, s3_, ia_, ja_]; rfl
   refine one_ (i := 14) (N := some 28) #[true, true, true, true, true, true, true, true, true, true, true, true, true, true, true, false, true, false] rfl rfl (by kernel_rfl) (by decide) (fun K hK => ?_); refine wb_ Tryz.func58 (by kernel_rfl) rfl #[.slice A8 RR.length c8, .func (.func 59) #[] #[]] (by rfl) rfl rfl (by (try simp only [List.map_toArray, List.map_cons, List.map_nil]); rfl) ?_
   refine (ik_ A8 c8 RR _ HN8.out HRB.out.1 HRB.out.2).mono ?_; rintro e w5 ⟨vM, rfl, hR, hB⟩; obtain ⟨AM, cM, hsM⟩ := Kd.R_slice hR; subst hsM; have HS2Z := Nat.succ_le_of_lt (za_ hHeld.2.2.2.1.out); have HRM := aM_ (Kd.R_lower (Kd.R_mono hR (ok' := fun q => w.heap.size + 2 ≤ q) (fun q hq => Nat.le_trans HS2Z hq)) (Nat.le_trans (Nat.le_add_right _ 2) HS2Z)); clear hR HS2Z; have HG := aM_ (oa_ HG.out hB); refine ⟨_, rfl, ?_⟩; refine hK.out _ _ ⟨ha_ hB hHeld.1, ha_ hB hHeld.2.1, ha_ hB hHeld.2.2.1, ⟨oa_ hHeld.2.2.2.1.out hB⟩, ⟨fa_ hHeld.2.2.2.2.out hB⟩⟩ (fun hHeld => ?_); clear hK K; refine wa_ (a' := ?_) ?_ ?_; rotate_left
   ·show Act.put _ (some 28) _ = _
    simp only [Act.put, s1_, s2_, s3_, ia_, ja_]; rfl
   refine pU_ 15 29 ?_ (f_ 18 17) rfl rfl (by kernel_rfl) (fun _ _ _ h => h) (by rfl) ?_ ?_ ?_ ?_; rotate_left
   ·intro w'
    go_simp; try with_reducible rfl
   rotate_left
   ·simp only [Act.put, s1_, s2_, s3_, ia_, ja_]
    rfl
   refine qg_ (i := 17) (N := none) (f_ 18 18) rfl rfl (by kernel_rfl) (by decide) (fun K hK => ?_); generalize w5 = w6 at *; have hz0 : w6.cell? ⟨g, 0, none⟩ = some (.string ⟨#[]⟩) := (ba_ HG.out 0).trans rfl; have hy0 := da_ HG.out 0; have hz1 : w6.cell? ⟨g, 1, none⟩ = some (.int .i64 0) := (ba_ HG.out 1).trans rfl; have hy1 := da_ HG.out 1; have hz2 : w6.cell? ⟨g, 2, none⟩ = some (.int .i64 0) := (ba_ HG.out 2).trans rfl; have hy2 := da_ HG.out 2; have hz3 : w6.cell? ⟨g, 3, none⟩ = some (.slice none 0 0) := (ba_ HG.out 3).trans rfl; have hy3 := da_ HG.out 3; have hz4 : w6.cell? ⟨g, 4, none⟩ = some (.slice none 0 0) := (ba_ HG.out 4).trans rfl; have hy4 := da_ HG.out 4; have hz5 : w6.cell? ⟨g, 5, none⟩ = some (.slice none 0 0) := (ba_ HG.out 5).trans rfl; have hy5 := da_ HG.out 5; refine og_ (w1 := ?_) (by rfl) rfl ?_ ?_; rotate_left
   ·go_simp
    rfl
   refine hK.out _ _ ?_; clear hK K; refine je_ (by kernel_rfl) ?_; have HGE : Az (w.heap.size ≤ g) := ⟨by have := HZ.out; omega⟩; have HW6 := hHeld.2.2.2.2; have HF : Az (((((((w6.setCell ⟨g, 0, none⟩ (.string id)).setCell ⟨g, 1, none⟩ (.int .i64 p5)).setCell ⟨g, 2, none⟩ (.int .i64 d5)).setCell ⟨g, 3, none⟩ (.slice none 0 0)).setCell ⟨g, 4, none⟩ (.slice AM RR.length cM)).setCell ⟨g, 5, none⟩ (.slice none 0 0)).heap[g]? = some (.cells #[.string id, .int .i64 p5, .int .i64 d5, .slice none 0 0, .slice AM RR.length cM, .slice none 0 0] 44 (0, 0))) := ⟨by simpa using (sa_ (sa_ (sa_ (sa_ (sa_ (sa_ HG.out 0 (.string id)) 1 (.int .i64 p5)) 2 (.int .i64 d5)) 3 (.slice none 0 0)) 4 (.slice AM RR.length cM)) 5 (.slice none 0 0))⟩; have HBF : Az (Below w.heap.size w ((((((w6.setCell ⟨g, 0, none⟩ (.string id)).setCell ⟨g, 1, none⟩ (.int .i64 p5)).setCell ⟨g, 2, none⟩ (.int .i64 d5)).setCell ⟨g, 3, none⟩ (.slice none 0 0)).setCell ⟨g, 4, none⟩ (.slice AM RR.length cM)).setCell ⟨g, 5, none⟩ (.slice none 0 0))) := ⟨(Below.setCell (p := ⟨g, 5, none⟩) (Below.setCell (p := ⟨g, 4, none⟩) (Below.setCell (p := ⟨g, 3, none⟩) (Below.setCell (p := ⟨g, 2, none⟩) (Below.setCell (p := ⟨g, 1, none⟩) (Below.setCell (p := ⟨g, 0, none⟩) HW6.out HGE.out (.string id)) HGE.out (.int .i64 p5)) HGE.out (.int .i64 d5)) HGE.out (.slice none 0 0)) HGE.out (.slice AM RR.length cM)) HGE.out (.slice none 0 0))⟩; have HSF : Az (((((((w6.setCell ⟨g, 0, none⟩ (.string id)).setCell ⟨g, 1, none⟩ (.int .i64 p5)).setCell ⟨g, 2, none⟩ (.int .i64 d5)).setCell ⟨g, 3, none⟩ (.slice none 0 0)).setCell ⟨g, 4, none⟩ (.slice AM RR.length cM)).setCell ⟨g, 5, none⟩ (.slice none 0 0)).heap[w.heap.size + 1]? = some (.cells #[.string ⟨#[]⟩, .int .i64 0, .int .i64 0, .slice none 0 0, .slice none 0 0, .slice none 0 0] 44 (0, 0))) := ⟨((heap_setCell_other (((((w6.setCell ⟨g, 0, none⟩ (.string id)).setCell ⟨g, 1, none⟩ (.int .i64 p5)).setCell ⟨g, 2, none⟩ (.int .i64 d5)).setCell ⟨g, 3, none⟩ (.slice none 0 0)).setCell ⟨g, 4, none⟩ (.slice AM RR.length cM)) ⟨g, 5, none⟩ (w.heap.size + 1) (.slice none 0 0) (by have := HZ.out; show w.heap.size + 1 ≠ g; omega)).trans ((heap_setCell_other ((((w6.setCell ⟨g, 0, none⟩ (.string id)).setCell ⟨g, 1, none⟩ (.int .i64 p5)).setCell ⟨g, 2, none⟩ (.int .i64 d5)).setCell ⟨g, 3, none⟩ (.slice none 0 0)) ⟨g, 4, none⟩ (w.heap.size + 1) (.slice AM RR.length cM) (by have := HZ.out; show w.heap.size + 1 ≠ g; omega)).trans ((heap_setCell_other (((w6.setCell ⟨g, 0, none⟩ (.string id)).setCell ⟨g, 1, none⟩ (.int .i64 p5)).setCell ⟨g, 2, none⟩ (.int .i64 d5)) ⟨g, 3, none⟩ (w.heap.size + 1) (.slice none 0 0) (by have := HZ.out; show w.heap.size + 1 ≠ g; omega)).trans ((heap_setCell_other ((w6.setCell ⟨g, 0, none⟩ (.string id)).setCell ⟨g, 1, none⟩ (.int .i64 p5)) ⟨g, 2, none⟩ (w.heap.size + 1) (.int .i64 d5) (by have := HZ.out; show w.heap.size + 1 ≠ g; omega)).trans ((heap_setCell_other (w6.setCell ⟨g, 0, none⟩ (.string id)) ⟨g, 1, none⟩ (w.heap.size + 1) (.int .i64 p5) (by have := HZ.out; show w.heap.size + 1 ≠ g; omega)).trans ((heap_setCell_other w6 ⟨g, 0, none⟩ (w.heap.size + 1) (.string id) (by have := HZ.out; show w.heap.size + 1 ≠ g; omega)).trans hHeld.2.2.2.1.out))))))⟩
   have HRN := Kd.R_types HRM.out HG.out (by decide); have HRF := aM_ (Kd.R_mono (Kd.R_far (Kd.R_far (Kd.R_far (Kd.R_far (Kd.R_far (Kd.R_far HRN (p := ⟨g, 0, none⟩) (fun q hq => hq.2) (.string id)) (p := ⟨g, 1, none⟩) (fun q hq => hq.2) (.int .i64 p5)) (p := ⟨g, 2, none⟩) (fun q hq => hq.2) (.int .i64 d5)) (p := ⟨g, 3, none⟩) (fun q hq => hq.2) (.slice none 0 0)) (p := ⟨g, 4, none⟩) (fun q hq => hq.2) (.slice AM RR.length cM)) (p := ⟨g, 5, none⟩) (fun q hq => hq.2) (.slice none 0 0)) (ok' := fun q => w.heap.size + 2 ≤ q ∧ q ≠ g) (fun q hq => hq)); generalize ((((((w6.setCell ⟨g, 0, none⟩ (.string id)).setCell ⟨g, 1, none⟩ (.int .i64 p5)).setCell ⟨g, 2, none⟩ (.int .i64 d5)).setCell ⟨g, 3, none⟩ (.slice none 0 0)).setCell ⟨g, 4, none⟩ (.slice AM RR.length cM)).setCell ⟨g, 5, none⟩ (.slice none 0 0)) = w7 at *; clear hHeld HRN
   go_wp2_with fail
   go_meet
   case rel => exact ⟨g, rfl, HZ, AM, cM, HF, HRF, HSF, HBF⟩
  refine hd_ (w1 := ?_) (v := ?_) (by rfl) rfl ?_ ?_; rotate_left 2
  ·go_simp
   constructor
   ·rfl
   rfl
  have hB := aa_ (Below.refl w3.heap.size w3) (.cells #[.string ⟨#[]⟩, .int .i64 0, .int .i64 0, .slice none 0 0, .slice none 0 0, .slice none 0 0] 44)
  (try replace HN8 := aM_ (Kd.C_below HN8.out hB))
  (try replace HRM := aM_ (Kd.R_below HRM.out hB))
  have HG := aM_ (ra_ w3 (.cells #[.string ⟨#[]⟩, .int .i64 0, .int .i64 0, .slice none 0 0, .slice none 0 0, .slice none 0 0] 44)); have HZ : Az (w.heap.size + 2 ≤ w3.heap.size) := ⟨by have := za_ hHeld.2.2.2.1.out; omega⟩; refine hK.out _ _ ⟨ha_ hB hHeld.1, ha_ hB hHeld.2.1, ha_ hB hHeld.2.2.1, ⟨oa_ hHeld.2.2.2.1.out hB⟩, ⟨fa_ hHeld.2.2.2.2.out hB⟩⟩ (fun hHeld => ?_); clear hK K; generalize hgg : w3.heap.size = g at *; generalize w3.alloc (.cells #[.string ⟨#[]⟩, .int .i64 0, .int .i64 0, .slice none 0 0, .slice none 0 0, .slice none 0 0] 44) = W9 at *; have hK := trivial; have K := trivial; clear hK K; refine wa_ (a' := ?_) ?_ ?_; rotate_left
  ·show Act.put _ (some 7) _ = _
   simp only [Act.put, s1_, s2_, s3_, ia_, ja_]; rfl
  refine one_ (i := 13) (N := some 27) #[true, true, true, true, true, true, true, true, true, true, true, true, true, true, false, false, true, false] rfl rfl (by kernel_rfl) (by decide) (fun K hK => ?_); refine wb_ Tryz.func48 (by kernel_rfl) rfl #[.slice (some ad) l.length c, .int .i64 k] (by rfl) rfl rfl (by (try simp only [List.map_toArray, List.map_cons, List.map_nil]); rfl) ?_
  refine (HRU.out _ hHeld.2.2.2.2.out).mono ?_; rintro e w4 ⟨v8, rfl, hN, hB⟩; obtain ⟨A8, c8, hs8⟩ := Kd.N_slice hN; subst hs8; have HN8 := aM_ (Kd.N_reads' hN).2.2; have HG := aM_ (oa_ HG.out hB); clear hN; refine ⟨_, rfl, ?_⟩; refine hK.out _ _ ⟨ha_ hB hHeld.1, ha_ hB hHeld.2.1, ha_ hB hHeld.2.2.1, ⟨oa_ hHeld.2.2.2.1.out hB⟩, ⟨fa_ hHeld.2.2.2.2.out hB⟩⟩ (fun hHeld => ?_); clear hK K; refine wa_ (a' := ?_) ?_ ?_; rotate_left
  ·show Act.put _ (some 27) _ = _
   simp only [Act.put, s1_, s2_, s3_, ia_, ja_]; rfl
  refine one_ (i := 14) (N := some 28) #[true, true, true, true, true, true, true, true, true, true, true, true, true, true, true, false, true, false] rfl rfl (by kernel_rfl) (by decide) (fun K hK => ?_); refine wb_ Tryz.func58 (by kernel_rfl) rfl #[.slice A8 RR.length c8, .func (.func 59) #[] #[]] (by rfl) rfl rfl (by (try simp only [List.map_toArray, List.map_cons, List.map_nil]); rfl) ?_
  refine (ik_ A8 c8 RR _ HN8.out HRB.out.1 HRB.out.2).mono ?_; rintro e w5 ⟨vM, rfl, hR, hB⟩; obtain ⟨AM, cM, hsM⟩ := Kd.R_slice hR; subst hsM; have HS2Z := Nat.succ_le_of_lt (za_ hHeld.2.2.2.1.out); have HRM := aM_ (Kd.R_lower (Kd.R_mono hR (ok' := fun q => w.heap.size + 2 ≤ q) (fun q hq => Nat.le_trans HS2Z hq)) (Nat.le_trans (Nat.le_add_right _ 2) HS2Z)); clear hR HS2Z; have HG := aM_ (oa_ HG.out hB); refine ⟨_, rfl, ?_⟩; refine hK.out _ _ ⟨ha_ hB hHeld.1, ha_ hB hHeld.2.1, ha_ hB hHeld.2.2.1, ⟨oa_ hHeld.2.2.2.1.out hB⟩, ⟨fa_ hHeld.2.2.2.2.out hB⟩⟩ (fun hHeld => ?_); clear hK K; refine wa_ (a' := ?_) ?_ ?_; rotate_left
  ·show Act.put _ (some 28) _ = _
   simp only [Act.put, s1_, s2_, s3_, ia_, ja_]; rfl
  refine pU_ 15 29 ?_ (f_ 18 17) rfl rfl (by kernel_rfl) (fun _ _ _ h => h) (by rfl) ?_ ?_ ?_ ?_; rotate_left
  ·intro w'
   go_simp; try with_reducible rfl
  rotate_left
  ·simp only [Act.put, s1_, s2_, s3_, ia_, ja_]
   rfl
  refine qg_ (i := 17) (N := none) (f_ 18 18) rfl rfl (by kernel_rfl) (by decide) (fun K hK => ?_); generalize w5 = w6 at *; have hz0 : w6.cell? ⟨g, 0, none⟩ = some (.string ⟨#[]⟩) := (ba_ HG.out 0).trans rfl; have hy0 := da_ HG.out 0; have hz1 : w6.cell? ⟨g, 1, none⟩ = some (.int .i64 0) := (ba_ HG.out 1).trans rfl; have hy1 := da_ HG.out 1; have hz2 : w6.cell? ⟨g, 2, none⟩ = some (.int .i64 0) := (ba_ HG.out 2).trans rfl; have hy2 := da_ HG.out 2; have hz3 : w6.cell? ⟨g, 3, none⟩ = some (.slice none 0 0) := (ba_ HG.out 3).trans rfl; have hy3 := da_ HG.out 3; have hz4 : w6.cell? ⟨g, 4, none⟩ = some (.slice none 0 0) := (ba_ HG.out 4).trans rfl; have hy4 := da_ HG.out 4; have hz5 : w6.cell? ⟨g, 5, none⟩ = some (.slice none 0 0) := (ba_ HG.out 5).trans rfl; have hy5 := da_ HG.out 5; refine og_ (w1 := ?_) (by rfl) rfl ?_ ?_; rotate_left
  ·go_simp
   rfl
  refine hK.out _ _ ?_; clear hK K; refine je_ (by kernel_rfl) ?_; have HGE : Az (w.heap.size ≤ g) := ⟨by have := HZ.out; omega⟩; have HW6 := hHeld.2.2.2.2; have HF : Az (((((((w6.setCell ⟨g, 0, none⟩ (.string id)).setCell ⟨g, 1, none⟩ (.int .i64 p5)).setCell ⟨g, 2, none⟩ (.int .i64 d5)).setCell ⟨g, 3, none⟩ (.slice none 0 0)).setCell ⟨g, 4, none⟩ (.slice AM RR.length cM)).setCell ⟨g, 5, none⟩ (.slice none 0 0)).heap[g]? = some (.cells #[.string id, .int .i64 p5, .int .i64 d5, .slice none 0 0, .slice AM RR.length cM, .slice none 0 0] 44 (0, 0))) := ⟨by simpa using (sa_ (sa_ (sa_ (sa_ (sa_ (sa_ HG.out 0 (.string id)) 1 (.int .i64 p5)) 2 (.int .i64 d5)) 3 (.slice none 0 0)) 4 (.slice AM RR.length cM)) 5 (.slice none 0 0))⟩; have HBF : Az (Below w.heap.size w ((((((w6.setCell ⟨g, 0, none⟩ (.string id)).setCell ⟨g, 1, none⟩ (.int .i64 p5)).setCell ⟨g, 2, none⟩ (.int .i64 d5)).setCell ⟨g, 3, none⟩ (.slice none 0 0)).setCell ⟨g, 4, none⟩ (.slice AM RR.length cM)).setCell ⟨g, 5, none⟩ (.slice none 0 0))) := ⟨(Below.setCell (p := ⟨g, 5, none⟩) (Below.setCell (p := ⟨g, 4, none⟩) (Below.setCell (p := ⟨g, 3, none⟩) (Below.setCell (p := ⟨g, 2, none⟩) (Below.setCell (p := ⟨g, 1, none⟩) (Below.setCell (p := ⟨g, 0, none⟩) HW6.out HGE.out (.string id)) HGE.out (.int .i64 p5)) HGE.out (.int .i64 d5)) HGE.out (.slice none 0 0)) HGE.out (.slice AM RR.length cM)) HGE.out (.slice none 0 0))⟩; have HSF : Az (((((((w6.setCell ⟨g, 0, none⟩ (.string id)).setCell ⟨g, 1, none⟩ (.int .i64 p5)).setCell ⟨g, 2, none⟩ (.int .i64 d5)).setCell ⟨g, 3, none⟩ (.slice none 0 0)).setCell ⟨g, 4, none⟩ (.slice AM RR.length cM)).setCell ⟨g, 5, none⟩ (.slice none 0 0)).heap[w.heap.size + 1]? = some (.cells #[.string ⟨#[]⟩, .int .i64 0, .int .i64 0, .slice none 0 0, .slice none 0 0, .slice none 0 0] 44 (0, 0))) := ⟨((heap_setCell_other (((((w6.setCell ⟨g, 0, none⟩ (.string id)).setCell ⟨g, 1, none⟩ (.int .i64 p5)).setCell ⟨g, 2, none⟩ (.int .i64 d5)).setCell ⟨g, 3, none⟩ (.slice none 0 0)).setCell ⟨g, 4, none⟩ (.slice AM RR.length cM)) ⟨g, 5, none⟩ (w.heap.size + 1) (.slice none 0 0) (by have := HZ.out; show w.heap.size + 1 ≠ g; omega)).trans ((heap_setCell_other ((((w6.setCell ⟨g, 0, none⟩ (.string id)).setCell ⟨g, 1, none⟩ (.int .i64 p5)).setCell ⟨g, 2, none⟩ (.int .i64 d5)).setCell ⟨g, 3, none⟩ (.slice none 0 0)) ⟨g, 4, none⟩ (w.heap.size + 1) (.slice AM RR.length cM) (by have := HZ.out; show w.heap.size + 1 ≠ g; omega)).trans ((heap_setCell_other (((w6.setCell ⟨g, 0, none⟩ (.string id)).setCell ⟨g, 1, none⟩ (.int .i64 p5)).setCell ⟨g, 2, none⟩ (.int .i64 d5)) ⟨g, 3, none⟩ (w.heap.size + 1) (.slice none 0 0) (by have := HZ.out; show w.heap.size + 1 ≠ g; omega)).trans ((heap_setCell_other ((w6.setCell ⟨g, 0, none⟩ (.string id)).setCell ⟨g, 1, none⟩ (.int .i64 p5)) ⟨g, 2, none⟩ (w.heap.size + 1) (.int .i64 d5) (by have := HZ.out; show w.heap.size + 1 ≠ g; omega)).trans ((heap_setCell_other (w6.setCell ⟨g, 0, none⟩ (.string id)) ⟨g, 1, none⟩ (w.heap.size + 1) (.int .i64 p5) (by have := HZ.out; show w.heap.size + 1 ≠ g; omega)).trans ((heap_setCell_other w6 ⟨g, 0, none⟩ (w.heap.size + 1) (.string id) (by have := HZ.out; show w.heap.size + 1 ≠ g; omega)).trans hHeld.2.2.2.1.out))))))⟩
  have HRN := Kd.R_types HRM.out HG.out (by decide); have HRF := aM_ (Kd.R_mono (Kd.R_far (Kd.R_far (Kd.R_far (Kd.R_far (Kd.R_far (Kd.R_far HRN (p := ⟨g, 0, none⟩) (fun q hq => hq.2) (.string id)) (p := ⟨g, 1, none⟩) (fun q hq => hq.2) (.int .i64 p5)) (p := ⟨g, 2, none⟩) (fun q hq => hq.2) (.int .i64 d5)) (p := ⟨g, 3, none⟩) (fun q hq => hq.2) (.slice none 0 0)) (p := ⟨g, 4, none⟩) (fun q hq => hq.2) (.slice AM RR.length cM)) (p := ⟨g, 5, none⟩) (fun q hq => hq.2) (.slice none 0 0)) (ok' := fun q => w.heap.size + 2 ≤ q ∧ q ≠ g) (fun q hq => hq)); generalize ((((((w6.setCell ⟨g, 0, none⟩ (.string id)).setCell ⟨g, 1, none⟩ (.int .i64 p5)).setCell ⟨g, 2, none⟩ (.int .i64 d5)).setCell ⟨g, 3, none⟩ (.slice none 0 0)).setCell ⟨g, 4, none⟩ (.slice AM RR.length cM)).setCell ⟨g, 5, none⟩ (.slice none 0 0)) = w7 at *; clear hHeld HRN
  go_wp2_with fail
  go_meet
  case rel => exact ⟨g, rfl, HZ, AM, cM, HF, HRF, HSF, HBF⟩
 obtain ⟨g, rfl, HZ, AM, cM, HG, HRM, HSR, HBW⟩ := hcut
 clear h0 h1 h2 HP2 HS2 HB2 H1 H2 HRU
 have HE0 : Az (lexP l k = dh_ l (k + 1) k [] ∧ styP l k = sf_ l (k + 1) k []) := ⟨⟨rfl, rfl⟩⟩
 have HY0 : Az (Kd.R k46 46 wc w.heap.size (fun q => g < q) (.slice none 0 0) []) := ⟨Kd.R_nil _ _ _ _ _⟩
 have HT0 : Az (Kd.R k52 52 wc w.heap.size (fun q => g < q) (.slice none 0 0) []) := ⟨Kd.R_nil _ _ _ _ _⟩
 go_wp2_with fail
 go_loopg [6] (k + 1) (fun gg s6 wr => ∃ (a : Int) (n : Nat) (ys : List S46) (ss : List S52) (A3 : Option Addr) (c3 : Nat) (A5 : Option Addr) (c5 : Nat), s6 = .int .i64 a ∧ (a + 1).toNat ≤ gg ∧ a < n ∧ a < l.length ∧ Az ((ys.length : Int) + 1000 * (a + 1) ≤ 1000 * l.length ∧ (ss.length : Int) + 1000 * (a + 1) ≤ 1000 * l.length) ∧ Az (ys.length ≤ 1000 * l.length ∧ ss.length ≤ 1000 * l.length) ∧ Az (lexP l k = dh_ l n a ys ∧ styP l k = sf_ l n a ss) ∧ Az (wr.heap[g]? = some (.cells #[.string id, .int .i64 p5, .int .i64 d5, .slice A3 ys.length c3, .slice AM RR.length cM, .slice A5 ss.length c5] 44 (0, 0))) ∧ Az (wr.heap[w.heap.size + 1]? = some (.cells #[.string ⟨#[]⟩, .int .i64 0, .int .i64 0, .slice none 0 0, .slice none 0 0, .slice none 0 0] 44 (0, 0))) ∧ Az (Kd.R k46 46 wr w.heap.size (fun q => g < q) (.slice A3 ys.length c3) ys) ∧ Az (Kd.R k56 56 wr w.heap.size (fun q => w.heap.size + 2 ≤ q ∧ q ≠ g) (.slice AM RR.length cM) RR) ∧ Az (Kd.R k52 52 wr w.heap.size (fun q => g < q) (.slice A5 ss.length c5) ss) ∧ Az (Below w.heap.size w wr))
 case atStart => exact ⟨k, k + 1, [], [], none, 0, none, 0, rfl, by omega, by omega, by omega, ⟨by have := HLL.out; simp; omega⟩, ⟨by simp⟩, HE0, HG, HSR, HY0, HRM, HT0, HBW⟩
 clear HE0 HY0 HT0 HG HSR HBW HRM
 obtain ⟨a, n, ys, ss, A3, c3, A5, c5, rfl, hgg, han, hal, HYL, HYM, HE, HG, HSR, HY, HRM, HT, HBW⟩ := hrel
 have hw1 : wrap64 ((l.length : Int) - 1) = (l.length : Int) - 1 := by have := HLL.out; rw [wrap64]; omega
 have HWI := aM_ (we_ a 0 ((l.length : Int) - 1))
 cases hin : jb_ a 0 ((l.length : Int) - 1) with
 | false =>
  rw [hin] at HWI
  have HG0 : Az (lexP l k = ys ∧ styP l k = ss) := ⟨by
   rw [HE.out.1, HE.out.2]
   cases n with
   | zero => exact ⟨rfl, rfl⟩
   | succ n => rw [dh_, sf_, if_neg (by rw [hin]; decide), if_neg (by rw [hin]; decide)]; exact ⟨rfl, rfl⟩⟩
  have HYB : Az (ys.length * 32 ≤ 140737488355328 ∧ ss.length * 32 ≤ 140737488355328) := ⟨by have h1 := HYM.out; have h2 := HLL.out; omega⟩; clear hin HE
  go_wp2_with fail
  refine (HWI.out _).mono ?_; rintro e W5 ⟨rfl, hB⟩; replace HG := aM_ (oa_ HG.out hB); replace HSR := aM_ (oa_ HSR.out hB); replace HY := aM_ (Kd.R_below HY.out hB); replace HT := aM_ (Kd.R_below HT.out hB); replace HRM := aM_ (Kd.R_below HRM.out hB); have HW5 : Az (Below w.heap.size w W5) := ⟨fa_ HBW.out hB⟩; have hg3 : W5.cell? ⟨g, 3, none⟩ = some (.slice A3 ys.length c3) := ba_ HG.out 3; have hg5 : W5.cell? ⟨g, 5, none⟩ = some (.slice A5 ss.length c5) := ba_ HG.out 5; clear hB HWI HBW
  go_wp2_with fail
  refine wd_ (n := 10) (S := fun w' => w'.cell? ⟨g, 3, none⟩ = some (.slice A3 ys.length c3) ∧ w'.cell? ⟨g, 5, none⟩ = some (.slice A5 ss.length c5) ∧ Az (Below W5.heap.size W5 w')) (ds := [7, 9]) (f_ 10 0) (by kernel_rfl) rfl rfl ⟨hg3, hg5, ⟨ca_ (Below.refl _ _) 1⟩⟩ (fun hHeld => ?_); generalize W5.drew = w3 at *; refine pU_ 0 59 ?_ (f_ 10 1) rfl rfl (by kernel_rfl) (fun _ _ _ h => h) (by rfl) ?_ ?_ ?_ ?_; rotate_left
  ·intro w'
   go_simp; try with_reducible rfl
  rotate_left
  ·simp only [Act.put, s1_, s2_, s3_, ia_, ja_]
   rfl
  refine tA_ 1 60 ?_ (f_ 10 2) rfl rfl (by kernel_rfl) (fun _ _ _ h => h) (by rfl) ?_ hHeld ?_ ?_ ?_; rotate_left
  ·rintro w' ⟨s0, s1, s2⟩
   go_simp; try with_reducible rfl
  rotate_left
  ·simp only [Act.put, s1_, s2_, s3_, ia_, ja_]
   rfl
  refine pU_ 3 62 ?_ #[true, true, false, true, false, false, false, false, false, false] rfl rfl (by kernel_rfl) (fun _ _ _ h => h) (by rfl) ?_ ?_ ?_ ?_; rotate_left
  ·intro w'
   go_simp; try with_reducible rfl
  rotate_left
  ·simp only [Act.put, s1_, s2_, s3_, ia_, ja_]
   rfl
  refine tA_ 4 63 ?_ #[true, true, false, true, true, false, false, false, false, false] rfl rfl (by kernel_rfl) (fun _ _ _ h => h) (by rfl) ?_ hHeld ?_ ?_ ?_; rotate_left
  ·rintro w' ⟨s0, s1, s2⟩
   go_simp; try with_reducible rfl
  rotate_left
  ·simp only [Act.put, s1_, s2_, s3_, ia_, ja_]
   rfl
  refine one_ (i := 2) (N := some 61) (f_ 10 5) rfl rfl (by kernel_rfl) (by decide) (fun K hK => ?_); refine wb_ Tryz.func65 (by kernel_rfl) rfl #[.slice A3 ys.length c3] (by rfl) rfl rfl (by (try simp only [List.map_toArray, List.map_cons, List.map_nil]); rfl) ?_
  have HSZ : Az (g + 1 ≤ w3.heap.size ∧ w.heap.size ≤ w3.heap.size) := ⟨Nat.le_trans (za_ HG.out) hHeld.2.2.out.size, Nat.le_trans HW5.out.size hHeld.2.2.out.size⟩; refine (cloneE A3 c3 ys w3 (g + 1) w.heap.size (Kd.R_below HY.out hHeld.2.2.out) HSZ.out.1 HSZ.out.2 HYB.out.1).mono ?_; rintro e w4 ⟨v3, rfl, hR, hB⟩; have HR3 := aM_ hR; refine ⟨_, rfl, ?_⟩; refine hK.out _ _ ⟨ha_ hB hHeld.1, ha_ hB hHeld.2.1, ⟨fa_ hHeld.2.2.out hB⟩⟩ (fun hHeld => ?_); clear hK K; refine wa_ (a' := ?_) ?_ ?_; rotate_left
  ·show Act.put _ (some 61) _ = _
   simp only [Act.put, s1_, s2_, s3_, ia_, ja_]; rfl
  refine pU_ 6 65 ?_ #[true, true, true, true, true, false, true, false, false, false] rfl rfl (by kernel_rfl) (fun _ _ _ h => h) (by rfl) ?_ ?_ ?_ ?_; rotate_left
  ·intro w'
   go_simp; try with_reducible rfl
  rotate_left
  ·simp only [Act.put, s1_, s2_, s3_, ia_, ja_]
   rfl
  refine one_ (i := 5) (N := some 64) (f_ 10 7) rfl rfl (by kernel_rfl) (by decide) (fun K hK => ?_); refine wb_ Tryz.func66 (by kernel_rfl) rfl #[.slice A5 ss.length c5] (by rfl) rfl rfl (by (try simp only [List.map_toArray, List.map_cons, List.map_nil]); rfl) ?_
  have HSZ4 : Az (g + 1 ≤ w4.heap.size ∧ w.heap.size ≤ w4.heap.size) := ⟨Nat.le_trans (za_ HG.out) hHeld.2.2.out.size, Nat.le_trans HW5.out.size hHeld.2.2.out.size⟩; refine (vs_ A5 c5 ss w4 (g + 1) w.heap.size (Kd.R_below HT.out hHeld.2.2.out) HSZ4.out.1 HSZ4.out.2 HYB.out.2).mono ?_; rintro e w5 ⟨v5, rfl, hR, hB⟩; have HR5 := aM_ hR; have HR4 := aM_ (Kd.R_below HR3.out hB); have HG5 := aM_ (oa_ HG.out (fa_ hHeld.2.2.out hB)); obtain ⟨B3, e3, hs3⟩ := Kd.R_slice HR4.out; obtain ⟨B5, e5, hs5⟩ := Kd.R_slice HR5.out; subst hs3; subst hs5; refine ⟨_, rfl, ?_⟩; refine hK.out _ _ ⟨ha_ hB hHeld.1, ha_ hB hHeld.2.1, ⟨fa_ hHeld.2.2.out hB⟩⟩ (fun hHeld => ?_); clear hK K; refine wa_ (a' := ?_) ?_ ?_; rotate_left
  ·show Act.put _ (some 64) _ = _
   simp only [Act.put, s1_, s2_, s3_, ia_, ja_]; rfl
  refine qg_ (i := 7) (N := none) (f_ 10 8) rfl rfl (by kernel_rfl) (by decide) (fun K hK => ?_); have hz3 := hHeld.1; have hz5 := hHeld.2.1; have hy3 := da_ HG5.out 3; have hy5 := da_ HG5.out 5; refine og_ (w1 := ?_) (by rfl) rfl ?_ ?_; rotate_left
  ·go_simp
   rfl
  refine hK.out _ _ ?_; clear hK K; refine pU_ 8 66 ?_ (f_ 10 9) rfl rfl (by kernel_rfl) (fun _ _ _ h => h) (by rfl) ?_ ?_ ?_ ?_; rotate_left
  ·intro w'
   go_simp; try with_reducible rfl
  rotate_left
  ·simp only [Act.put, s1_, s2_, s3_, ia_, ja_]
   rfl
  refine qg_ (i := 9) (N := none) (f_ 10 10) rfl rfl (by kernel_rfl) (by decide) (fun K hK => ?_); refine og_ (w1 := ?_) (by rfl) rfl ?_ ?_; rotate_left
  ·go_simp
   rfl
  refine hK.out _ _ ?_; clear hK K; refine je_ (by kernel_rfl) ?_; have HB5 := hHeld.2.2; have HGE : Az (w.heap.size ≤ g ∧ w.heap.size + 1 ≠ g) := ⟨by have := HZ.out; omega⟩; have HG7 : Az (((w5.setCell ⟨g, 3, none⟩ (.slice B3 ys.length e3)).setCell ⟨g, 5, none⟩ (.slice B5 ss.length e5)).heap[g]? = some (.cells #[.string id, .int .i64 p5, .int .i64 d5, .slice B3 ys.length e3, .slice AM RR.length cM, .slice B5 ss.length e5] 44 (0, 0))) := ⟨by simpa using sa_ (sa_ HG5.out 3 (.slice B3 ys.length e3)) 5 (.slice B5 ss.length e5)⟩; have HSR7 : Az (((w5.setCell ⟨g, 3, none⟩ (.slice B3 ys.length e3)).setCell ⟨g, 5, none⟩ (.slice B5 ss.length e5)).heap[w.heap.size + 1]? = some (.cells #[.string ⟨#[]⟩, .int .i64 0, .int .i64 0, .slice none 0 0, .slice none 0 0, .slice none 0 0] 44 (0, 0))) := ⟨(heap_setCell_other _ ⟨g, 5, none⟩ _ _ HGE.out.2).trans ((heap_setCell_other w5 ⟨g, 3, none⟩ _ _ HGE.out.2).trans (oa_ HSR.out HB5.out))⟩; have HW7 : Az (Below w.heap.size w ((w5.setCell ⟨g, 3, none⟩ (.slice B3 ys.length e3)).setCell ⟨g, 5, none⟩ (.slice B5 ss.length e5))) := ⟨Below.setCell (p := ⟨g, 5, none⟩) (Below.setCell (p := ⟨g, 3, none⟩) (fa_ HW5.out HB5.out) HGE.out.1 _) HGE.out.1 _⟩; have HL7 := aM_ (Kd.R_far (Kd.R_far HR4.out (p := ⟨g, 3, none⟩) (fun q hq => Nat.ne_of_gt hq) (.slice B3 ys.length e3)) (p := ⟨g, 5, none⟩) (fun q hq => Nat.ne_of_gt hq) (.slice B5 ss.length e5)); have HT7 := aM_ (Kd.R_far (Kd.R_far HR5.out (p := ⟨g, 3, none⟩) (fun q hq => Nat.ne_of_gt hq) (.slice B3 ys.length e3)) (p := ⟨g, 5, none⟩) (fun q hq => Nat.ne_of_gt hq) (.slice B5 ss.length e5)); have HRM7 := aM_ (Kd.R_far (Kd.R_far (Kd.R_below HRM.out HB5.out) (p := ⟨g, 3, none⟩) (fun q hq => hq.2) (.slice B3 ys.length e3)) (p := ⟨g, 5, none⟩) (fun q hq => hq.2) (.slice B5 ss.length e5)); generalize ((w5.setCell ⟨g, 3, none⟩ (.slice B3 ys.length e3)).setCell ⟨g, 5, none⟩ (.slice B5 ss.length e5)) = w7 at *; clear hHeld HB5 HG5 HR3 HR4 HR5 HG HSR HY HT HRM HW5 hg3 hg5 hz3 hz5 hy3 hy5; have ha0 := ba_ HG7.out 0; have hb0 := ba_ HSR7.out 0; have hf0 := da_ HSR7.out 0; have ha1 := ba_ HG7.out 1; have hb1 := ba_ HSR7.out 1; have hf1 := da_ HSR7.out 1; have ha2 := ba_ HG7.out 2; have hb2 := ba_ HSR7.out 2; have hf2 := da_ HSR7.out 2; have ha3 := ba_ HG7.out 3; have hb3 := ba_ HSR7.out 3; have hf3 := da_ HSR7.out 3; have ha4 := ba_ HG7.out 4; have hb4 := ba_ HSR7.out 4; have hf4 := da_ HSR7.out 4; have ha5 := ba_ HG7.out 5; have hb5 := ba_ HSR7.out 5; have hf5 := da_ HSR7.out 5; have hu1 := Tryz.underlying44
  go_wp2
  have hb7 : ((((((w7.setCell ⟨w.heap.size + 1, 0, none⟩ (.string id)).setCell ⟨w.heap.size + 1, 1, none⟩ (.int .i64 p5)).setCell ⟨w.heap.size + 1, 2, none⟩ (.int .i64 d5)).setCell ⟨w.heap.size + 1, 3, none⟩ (.slice B3 ys.length e3)).setCell ⟨w.heap.size + 1, 4, none⟩ (.slice AM RR.length cM)).setCell ⟨w.heap.size + 1, 5, none⟩ (.slice B5 ss.length e5)).heap[w.heap.size + 1]? = some (.cells #[.string id, .int .i64 p5, .int .i64 d5, .slice B3 ys.length e3, .slice AM RR.length cM, .slice B5 ss.length e5] 44 (0, 0)) := by simpa using (sa_ (sa_ (sa_ (sa_ (sa_ (sa_ HSR7.out 0 (.string id)) 1 (.int .i64 p5)) 2 (.int .i64 d5)) 3 (.slice B3 ys.length e3)) 4 (.slice AM RR.length cM)) 5 (.slice B5 ss.length e5))
  refine bodyPost_ret (vl_ rfl _ _ (w.heap.size + 1) 44 #[.string id, .int .i64 p5, .int .i64 d5, .slice B3 ys.length e3, .slice AM RR.length cM, .slice B5 ss.length e5] (0, 0) _ rfl hb7 Tryz.underlying44 rfl (by kernel_rfl)) rfl ?_; rw [HG0.out.1, HG0.out.2]
  exact ⟨_, _, _, rfl, Kd.R_mono (Kd.R_far (Kd.R_far (Kd.R_far (Kd.R_far (Kd.R_far (Kd.R_far HL7.out (p := ⟨w.heap.size + 1, 0, none⟩) (fun q hq => by have := HZ.out; show q ≠ w.heap.size + 1; omega) (.string id)) (p := ⟨w.heap.size + 1, 1, none⟩) (fun q hq => by have := HZ.out; show q ≠ w.heap.size + 1; omega) (.int .i64 p5)) (p := ⟨w.heap.size + 1, 2, none⟩) (fun q hq => by have := HZ.out; show q ≠ w.heap.size + 1; omega) (.int .i64 d5)) (p := ⟨w.heap.size + 1, 3, none⟩) (fun q hq => by have := HZ.out; show q ≠ w.heap.size + 1; omega) (.slice B3 ys.length e3)) (p := ⟨w.heap.size + 1, 4, none⟩) (fun q hq => by have := HZ.out; show q ≠ w.heap.size + 1; omega) (.slice AM RR.length cM)) (p := ⟨w.heap.size + 1, 5, none⟩) (fun q hq => by have := HZ.out; show q ≠ w.heap.size + 1; omega) (.slice B5 ss.length e5)) (fun q hq => by have := HZ.out; show w.heap.size ≤ q; omega), Kd.R_mono (Kd.R_far (Kd.R_far (Kd.R_far (Kd.R_far (Kd.R_far (Kd.R_far HRM7.out (p := ⟨w.heap.size + 1, 0, none⟩) (fun q hq => by have := HZ.out; have := hq.1; show q ≠ w.heap.size + 1; omega) (.string id)) (p := ⟨w.heap.size + 1, 1, none⟩) (fun q hq => by have := HZ.out; have := hq.1; show q ≠ w.heap.size + 1; omega) (.int .i64 p5)) (p := ⟨w.heap.size + 1, 2, none⟩) (fun q hq => by have := HZ.out; have := hq.1; show q ≠ w.heap.size + 1; omega) (.int .i64 d5)) (p := ⟨w.heap.size + 1, 3, none⟩) (fun q hq => by have := HZ.out; have := hq.1; show q ≠ w.heap.size + 1; omega) (.slice B3 ys.length e3)) (p := ⟨w.heap.size + 1, 4, none⟩) (fun q hq => by have := HZ.out; have := hq.1; show q ≠ w.heap.size + 1; omega) (.slice AM RR.length cM)) (p := ⟨w.heap.size + 1, 5, none⟩) (fun q hq => by have := HZ.out; have := hq.1; show q ≠ w.heap.size + 1; omega) (.slice B5 ss.length e5)) (fun q hq => by have := hq.1; show w.heap.size ≤ q; omega), Kd.R_mono (Kd.R_far (Kd.R_far (Kd.R_far (Kd.R_far (Kd.R_far (Kd.R_far HT7.out (p := ⟨w.heap.size + 1, 0, none⟩) (fun q hq => by have := HZ.out; show q ≠ w.heap.size + 1; omega) (.string id)) (p := ⟨w.heap.size + 1, 1, none⟩) (fun q hq => by have := HZ.out; show q ≠ w.heap.size + 1; omega) (.int .i64 p5)) (p := ⟨w.heap.size + 1, 2, none⟩) (fun q hq => by have := HZ.out; show q ≠ w.heap.size + 1; omega) (.int .i64 d5)) (p := ⟨w.heap.size + 1, 3, none⟩) (fun q hq => by have := HZ.out; show q ≠ w.heap.size + 1; omega) (.slice B3 ys.length e3)) (p := ⟨w.heap.size + 1, 4, none⟩) (fun q hq => by have := HZ.out; show q ≠ w.heap.size + 1; omega) (.slice AM RR.length cM)) (p := ⟨w.heap.size + 1, 5, none⟩) (fun q hq => by have := HZ.out; show q ≠ w.heap.size + 1; omega) (.slice B5 ss.length e5)) (fun q hq => by have := HZ.out; show w.heap.size ≤ q; omega), (Below.setCell (p := ⟨w.heap.size + 1, 5, none⟩) (Below.setCell (p := ⟨w.heap.size + 1, 4, none⟩) (Below.setCell (p := ⟨w.heap.size + 1, 3, none⟩) (Below.setCell (p := ⟨w.heap.size + 1, 2, none⟩) (Below.setCell (p := ⟨w.heap.size + 1, 1, none⟩) (Below.setCell (p := ⟨w.heap.size + 1, 0, none⟩) HW7.out (Nat.le_succ _) (.string id)) (Nat.le_succ _) (.int .i64 p5)) (Nat.le_succ _) (.int .i64 d5)) (Nat.le_succ _) (.slice B3 ys.length e3)) (Nat.le_succ _) (.slice AM RR.length cM)) (Nat.le_succ _) (.slice B5 ss.length e5))⟩
 | true =>
  rw [hin] at HWI
  have hr2 : 0 ≤ a ∧ a ≤ (l.length : Int) - 1 := by
   unfold jb_ at hin
   simpa using hin
  obtain ⟨j, rfl⟩ : ∃ j : Nat, a = (j : Int) := ⟨a.toNat, by omega⟩; have hj : j < l.length := by omega
  have hjz : (j : Int) < (l.length : Int) := by omega
  obtain ⟨n, rfl⟩ : ∃ m, n = m + 1 := ⟨n - 1, by omega⟩; have HE1 : Az (lexP l k = dh_ l n (td_ l j) ((ya_ l (j : Int)).f3 ++ ys) ∧ styP l k = sf_ l n (td_ l j) ((ya_ l (j : Int)).f5 ++ ss)) := ⟨by rw [HE.out.1, HE.out.2, dh_, sf_, if_pos hin, if_pos hin]; exact ⟨rfl, rfl⟩⟩; have HPL1 := aM_ (xl_ l (j : Int) (by omega))
  have hy : ya_ l (j : Int) = l[j] := by
   show l.getD (j : Int).toNat _ = _; rw [Int.toNat_natCast, List.getD_eq_getElem?_getD, List.getElem?_eq_getElem hj]; rfl
  have hx3 : (ya_ l (j : Int)).f3.length ≤ 1000 := by rw [hy]; exact (HOK.out.2 _ (List.getElem_mem hj)).1
  have hx5 : (ya_ l (j : Int)).f5.length ≤ 1000 ∧ ∀ t ∈ (ya_ l (j : Int)).f5, t.f1.length ≤ 1000000 := by rw [hy]; exact (HOK.out.2 _ (List.getElem_mem hj)).2.2
  obtain ⟨ad', B3, d3, B4, d4, B5, d5', hA, h0, h1, h2, h3, h4, h5, l3, g3, l4, g4, l5, g5⟩ := lg_ HR.out (j : Int) (by omega) hjz; injection hA with hA; subst hA; rw [Int.toNat_natCast] at h3 h5; generalize (ya_ l (j : Int)).f3 = lx at *; generalize (ya_ l (j : Int)).f5 = sx at *; have HSX := aM_ hx5; have HSC := aM_ g5; have HLC := aM_ g3; have H3 := aM_ h3; have H5 : Az (w.cell? ⟨(ad.add (j * 6)).block, (ad.add (j * 6)).off + 5, none⟩ = some (.slice B5 sx.length d5')) := ⟨h5⟩; have HLX3 := aM_ hx3; have HPW := aM_ (fun W (hB : Below w.heap.size w W) => aq_ (some ad) c l (j : Int) W (Kd.C_below HR.out hB) HC.out (by omega) hjz); clear hin HE hr2 h0 h1 h2 h3 h4 h5 l3 g3 l4 g4 l5 g5 hy hx3 hx5
  go_wp2_with fail
  refine (HWI.out _).mono ?_; rintro e W5 ⟨rfl, hB⟩; replace HG := aM_ (oa_ HG.out hB); replace HSR := aM_ (oa_ HSR.out hB); replace HY := aM_ (Kd.R_below HY.out hB); replace HT := aM_ (Kd.R_below HT.out hB); replace HRM := aM_ (Kd.R_below HRM.out hB); have HW5 : Az (Below w.heap.size w W5) := ⟨fa_ HBW.out hB⟩; have HLY : Az (lx.length + ys.length ≤ 1000000 ∧ sx.length + ss.length ≤ 1000000) := ⟨by have := HYL.out; have := HLX3.out; have := HLL.out; have := HSX.out.1; omega⟩; have hl3 := ha_ HW5.out H3.out; have hg3 : W5.cell? ⟨g, 3, none⟩ = some (.slice A3 ys.length c3) := ba_ HG.out 3; clear hB HWI HBW
  go_wp2_with fail
  refine wd_ (n := 11) (S := fun w' => w'.cell? ⟨(ad.add (j * 6)).block, (ad.add (j * 6)).off + 3, none⟩ = some (.slice B3 lx.length d3) ∧ w'.cell? ⟨g, 3, none⟩ = some (.slice A3 ys.length c3) ∧ Az (Below W5.heap.size W5 w')) (ds := [10]) (f_ 11 0) (by kernel_rfl) rfl rfl ⟨hl3, hg3, ⟨ca_ (Below.refl _ _) 1⟩⟩ (fun hHeld => ?_); generalize W5.drew = w3 at *; refine pU_ 0 38 ?_ (f_ 11 1) rfl rfl (by kernel_rfl) (fun _ _ _ h => h) (by rfl) ?_ ?_ ?_ ?_; rotate_left
  ·intro w'
   go_simp; try with_reducible rfl
  rotate_left
  ·simp only [Act.put, s1_, s2_, s3_, ia_, ja_]
   rfl
  refine pU_ 1 39 ?_ (f_ 11 2) rfl rfl (by kernel_rfl) (fun _ _ _ h => h) (by rfl) ?_ ?_ ?_ ?_; rotate_left
  ·intro w'
   go_simp; try with_reducible rfl
  rotate_left
  ·simp only [Act.put, s1_, s2_, s3_, ia_, ja_]
   rfl
  refine pU_ 2 40 ?_ (f_ 11 3) rfl rfl (by kernel_rfl) (fun _ _ _ h => h) (by rfl) ?_ ?_ ?_ ?_; rotate_left
  ·intro w'
   go_simp; try with_reducible rfl
  rotate_left
  ·simp only [Act.put, s1_, s2_, s3_, ia_, ja_]
   rfl
  refine pU_ 3 41 ?_ (f_ 11 4) rfl rfl (by kernel_rfl) (fun _ _ _ h => h) (by rfl) ?_ ?_ ?_ ?_; rotate_left
  ·intro w'
   go_simp; try with_reducible rfl
  rotate_left
  ·simp only [Act.put, s1_, s2_, s3_, ia_, ja_]
   rfl
  refine tA_ 4 42 ?_ (f_ 11 5) rfl rfl (by kernel_rfl) (fun _ _ _ h => h) (by rfl) ?_ hHeld ?_ ?_ ?_; rotate_left
  ·rintro w' ⟨s0, s1, s2⟩
   go_simp; try with_reducible rfl
  rotate_left
  ·simp only [Act.put, s1_, s2_, s3_, ia_, ja_]
   rfl
  refine pU_ 5 43 ?_ (f_ 11 6) rfl rfl (by kernel_rfl) (fun _ _ _ h => h) (by rfl) ?_ ?_ ?_ ?_; rotate_left
  ·intro w'
   go_simp; try with_reducible rfl
  rotate_left
  ·simp only [Act.put, s1_, s2_, s3_, ia_, ja_]
   rfl
  refine tA_ 6 44 ?_ (f_ 11 7) rfl rfl (by kernel_rfl) (fun _ _ _ h => h) (by rfl) ?_ hHeld ?_ ?_ ?_; rotate_left
  ·rintro w' ⟨s0, s1, s2⟩
   go_simp; try with_reducible rfl
  rotate_left
  ·simp only [Act.put, s1_, s2_, s3_, ia_, ja_]
   rfl
  refine one_ (i := 7) (N := some 45) (f_ 11 8) rfl rfl (by kernel_rfl) (by decide) (fun K hK => ?_); refine hd_ (w1 := ?_) (v := ?_) (by rfl) rfl ?_ ?_; rotate_left 2
  ·go_simp
   constructor
   ·rfl
   rfl
  have hB := aa_ (Below.refl w3.heap.size w3) (.cells #[.slice B3 lx.length d3, .slice A3 ys.length c3] 40); have HCO := aM_ (ep_ w3.heap.size B3 A3 d3 c3 lx ys (w3.alloc (.cells #[.slice B3 lx.length d3, .slice A3 ys.length c3] 40)) (ba_ (ra_ w3 _) 0) (ba_ (ra_ w3 _) 1) (Kd.C_below HLC.out (fa_ HW5.out (fa_ hHeld.2.2.out hB))) (Kd.C_below (Kd.R_reads' HY.out).2.2 (fa_ hHeld.2.2.out hB)) HLY.out.1); have HSZ : Az (g < (w3.alloc (.cells #[.slice B3 lx.length d3, .slice A3 ys.length c3] 40)).heap.size) := ⟨Nat.lt_of_lt_of_le (za_ HG.out) (fa_ hHeld.2.2.out hB).size⟩; refine hK.out _ _ ⟨ha_ hB hHeld.1, ha_ hB hHeld.2.1, ⟨fa_ hHeld.2.2.out hB⟩⟩ (fun hHeld => ?_); clear hK K; generalize w3.heap.size = g3 at *; generalize w3.alloc (.cells #[.slice B3 lx.length d3, .slice A3 ys.length c3] 40) = w4 at *; have hK := trivial; have K := trivial; clear hK K; refine wa_ (a' := ?_) ?_ ?_; rotate_left
  ·show Act.put _ (some 45) _ = _
   simp only [Act.put, s1_, s2_, s3_, ia_, ja_]; rfl
  refine one_ (i := 8) (N := some 46) (f_ 11 9) rfl rfl (by kernel_rfl) (by decide) (fun K hK => ?_); refine wb_ Tryz.func61 (by kernel_rfl) rfl #[.slice (some ⟨g3, 0, none⟩) 2 2] (by rfl) rfl rfl (by (try simp only [List.map_toArray, List.map_cons, List.map_nil]); rfl) ?_
  refine HCO.out.mono ?_; rintro e w5 ⟨v7, rfl, hR, hB⟩; obtain ⟨A7, c7, hs7⟩ := Kd.R_slice hR; subst hs7; have HZL : Az ((lx ++ ys).length = lx.length + ys.length) := ⟨List.length_append⟩; generalize lx ++ ys = zs at *; have HRC := aM_ (Kd.R_mono (Kd.R_lower hR (Nat.le_trans HW5.out.size hHeld.2.2.out.size)) (ok' := fun q => g < q) (fun q hq => Nat.lt_of_lt_of_le HSZ.out hq)); have HG5 := aM_ (oa_ HG.out (fa_ hHeld.2.2.out hB)); refine ⟨_, rfl, ?_⟩; refine hK.out _ _ ⟨ha_ hB hHeld.1, ha_ hB hHeld.2.1, ⟨fa_ hHeld.2.2.out hB⟩⟩ (fun hHeld => ?_); clear hK K; refine wa_ (a' := ?_) ?_ ?_; rotate_left
  ·show Act.put _ (some 46) _ = _
   simp only [Act.put, s1_, s2_, s3_, ia_, ja_]; rfl
  refine pU_ 9 47 ?_ (f_ 11 10) rfl rfl (by kernel_rfl) (fun _ _ _ h => h) (by rfl) ?_ ?_ ?_ ?_; rotate_left
  ·intro w'
   go_simp; try with_reducible rfl
  rotate_left
  ·simp only [Act.put, s1_, s2_, s3_, ia_, ja_]
   rfl
  refine qg_ (i := 10) (N := none) (f_ 11 11) rfl rfl (by kernel_rfl) (by decide) (fun K hK => ?_); have hz := hHeld.2.1; have hy := da_ HG5.out 3; refine og_ (w1 := ?_) (by rfl) rfl ?_ ?_; rotate_left
  ·go_simp
   rfl
  refine hK.out _ _ ?_; clear hK K; refine je_ (by kernel_rfl) ?_; have HG6 : Az ((w5.setCell ⟨g, 3, none⟩ (.slice A7 zs.length c7)).heap[g]? = some (.cells #[.string id, .int .i64 p5, .int .i64 d5, .slice A7 zs.length c7, .slice AM RR.length cM, .slice A5 ss.length c5] 44 (0, 0))) := ⟨by simpa using sa_ HG5.out 3 (.slice A7 zs.length c7)⟩; have HB5 := hHeld.2.2; have HGE : Az (w.heap.size ≤ g ∧ w.heap.size + 1 ≠ g) := ⟨by have := HZ.out; omega⟩; have HSR6 : Az ((w5.setCell ⟨g, 3, none⟩ (.slice A7 zs.length c7)).heap[w.heap.size + 1]? = some (.cells #[.string ⟨#[]⟩, .int .i64 0, .int .i64 0, .slice none 0 0, .slice none 0 0, .slice none 0 0] 44 (0, 0))) := ⟨(heap_setCell_other w5 ⟨g, 3, none⟩ _ _ HGE.out.2).trans (oa_ HSR.out HB5.out)⟩; have HW6 : Az (Below w.heap.size w (w5.setCell ⟨g, 3, none⟩ (.slice A7 zs.length c7))) := ⟨Below.setCell (p := ⟨g, 3, none⟩) (fa_ HW5.out HB5.out) HGE.out.1 _⟩; have HY6 := aM_ (Kd.R_far HRC.out (p := ⟨g, 3, none⟩) (fun q hq => Nat.ne_of_gt hq) (.slice A7 zs.length c7)); have HRM6 := aM_ (Kd.R_far (Kd.R_below HRM.out HB5.out) (p := ⟨g, 3, none⟩) (fun q hq => hq.2) (.slice A7 zs.length c7)); have HT6 := aM_ (Kd.R_far (Kd.R_below HT.out HB5.out) (p := ⟨g, 3, none⟩) (fun q hq => Nat.ne_of_gt hq) (.slice A7 zs.length c7)); generalize w5.setCell ⟨g, 3, none⟩ (.slice A7 zs.length c7) = W6 at *; clear hHeld HB5 HG5 HRC HCO HSZ HG HSR HY HT HRM HW5 hl3 hg3 hz hy; have HG := HG6; have hl5 := ha_ HW6.out H5.out; have hg5 : W6.cell? ⟨g, 5, none⟩ = some (.slice A5 ss.length c5) := ba_ HG6.out 5
  go_wp2_with fail
  refine wd_ (n := 12) (S := fun w' => w'.cell? ⟨(ad.add (j * 6)).block, (ad.add (j * 6)).off + 5, none⟩ = some (.slice B5 sx.length d5') ∧ w'.cell? ⟨g, 5, none⟩ = some (.slice A5 ss.length c5) ∧ Az (Below W6.heap.size W6 w')) (ds := [11]) (f_ 12 0) (by kernel_rfl) rfl rfl ⟨hl5, hg5, ⟨ca_ (Below.refl _ _) 1⟩⟩ (fun hHeld => ?_); generalize W6.drew = w3 at *; refine pU_ 0 48 ?_ (f_ 12 1) rfl rfl (by kernel_rfl) (fun _ _ _ h => h) (by rfl) ?_ ?_ ?_ ?_; rotate_left
  ·intro w'
   go_simp; try with_reducible rfl
  rotate_left
  ·simp only [Act.put, s1_, s2_, s3_, ia_, ja_]
   rfl
  refine pU_ 1 49 ?_ (f_ 12 2) rfl rfl (by kernel_rfl) (fun _ _ _ h => h) (by rfl) ?_ ?_ ?_ ?_; rotate_left
  ·intro w'
   go_simp; try with_reducible rfl
  rotate_left
  ·simp only [Act.put, s1_, s2_, s3_, ia_, ja_]
   rfl
  refine pU_ 2 50 ?_ (f_ 12 3) rfl rfl (by kernel_rfl) (fun _ _ _ h => h) (by rfl) ?_ ?_ ?_ ?_; rotate_left
  ·intro w'
   go_simp; try with_reducible rfl
  rotate_left
  ·simp only [Act.put, s1_, s2_, s3_, ia_, ja_]
   rfl
  refine pU_ 3 51 ?_ (f_ 12 4) rfl rfl (by kernel_rfl) (fun _ _ _ h => h) (by rfl) ?_ ?_ ?_ ?_; rotate_left
  ·intro w'
   go_simp; try with_reducible rfl
  rotate_left
  ·simp only [Act.put, s1_, s2_, s3_, ia_, ja_]
   rfl
  refine tA_ 4 52 ?_ (f_ 12 5) rfl rfl (by kernel_rfl) (fun _ _ _ h => h) (by rfl) ?_ hHeld ?_ ?_ ?_; rotate_left
  ·rintro w' ⟨s0, s1, s2⟩
   go_simp; try with_reducible rfl
  rotate_left
  ·simp only [Act.put, s1_, s2_, s3_, ia_, ja_]
   rfl
  refine pU_ 6 54 ?_ #[true, true, true, true, true, false, true, false, false, false, false, false] rfl rfl (by kernel_rfl) (fun _ _ _ h => h) (by rfl) ?_ ?_ ?_ ?_; rotate_left
  ·intro w'
   go_simp; try with_reducible rfl
  rotate_left
  ·simp only [Act.put, s1_, s2_, s3_, ia_, ja_]
   rfl
  refine tA_ 7 55 ?_ #[true, true, true, true, true, false, true, true, false, false, false, false] rfl rfl (by kernel_rfl) (fun _ _ _ h => h) (by rfl) ?_ hHeld ?_ ?_ ?_; rotate_left
  ·rintro w' ⟨s0, s1, s2⟩
   go_simp; try with_reducible rfl
  rotate_left
  ·simp only [Act.put, s1_, s2_, s3_, ia_, ja_]
   rfl
  refine one_ (i := 5) (N := some 53) (f_ 12 8) rfl rfl (by kernel_rfl) (by decide) (fun K hK => ?_); refine wb_ Tryz.func63 (by kernel_rfl) rfl #[.slice B5 sx.length d5', .func (.func 64) #[] #[]] (by rfl) rfl rfl (by (try simp only [List.map_toArray, List.map_cons, List.map_nil]); rfl) ?_
  have HSM : Az (g + 1 ≤ w3.heap.size ∧ w.heap.size ≤ w3.heap.size) := ⟨Nat.le_trans (za_ HG.out) hHeld.2.2.out.size, Nat.le_trans HW6.out.size hHeld.2.2.out.size⟩; refine (ru_ B5 d5' sx _ (Kd.C_below HSC.out (fa_ HW6.out hHeld.2.2.out)) (by have := HSX.out.1; omega) HSX.out.2).mono ?_; rintro e w4 ⟨vM, rfl, hR, hB⟩; obtain ⟨BM, dM, hsM⟩ := Kd.R_slice hR; subst hsM; have HMX := aM_ (Kd.R_lower (Kd.R_mono hR (ok' := fun q => g + 1 ≤ q) (fun q hq => Nat.le_trans HSM.out.1 hq)) HSM.out.2); clear hR; refine ⟨_, rfl, ?_⟩; refine hK.out _ _ ⟨ha_ hB hHeld.1, ha_ hB hHeld.2.1, ⟨fa_ hHeld.2.2.out hB⟩⟩ (fun hHeld => ?_); clear hK K; refine wa_ (a' := ?_) ?_ ?_; rotate_left
  ·show Act.put _ (some 53) _ = _
   simp only [Act.put, s1_, s2_, s3_, ia_, ja_]; rfl
  refine one_ (i := 8) (N := some 56) (f_ 12 9) rfl rfl (by kernel_rfl) (by decide) (fun K hK => ?_); refine hd_ (w1 := ?_) (v := ?_) (by rfl) rfl ?_ ?_; rotate_left 2
  ·go_simp
   constructor
   ·rfl
   rfl
  have hB := aa_ (Below.refl w4.heap.size w4) (.cells #[.slice BM sx.length dM, .slice A5 ss.length c5] 42); have HS4 := Nat.le_trans (Nat.le_trans (za_ HG.out) hHeld.2.2.out.size) hB.size; have HS5 := Nat.le_trans (Nat.le_trans HW6.out.size hHeld.2.2.out.size) hB.size; have HCO := aM_ (ln_ w4.heap.size BM A5 dM c5 sx ss (w4.alloc (.cells #[.slice BM sx.length dM, .slice A5 ss.length c5] 42)) (ba_ (ra_ w4 _) 0) (ba_ (ra_ w4 _) 1) (g + 1) w.heap.size HS4 HS5 (Kd.R_below HMX.out hB) (Kd.R_below HT6.out (fa_ hHeld.2.2.out hB)) HLY.out.2); clear HS4 HS5; have HSZ : Az (g < (w4.alloc (.cells #[.slice BM sx.length dM, .slice A5 ss.length c5] 42)).heap.size) := ⟨Nat.lt_of_lt_of_le (za_ HG.out) (fa_ hHeld.2.2.out hB).size⟩; refine hK.out _ _ ⟨ha_ hB hHeld.1, ha_ hB hHeld.2.1, ⟨fa_ hHeld.2.2.out hB⟩⟩ (fun hHeld => ?_); clear hK K; generalize w4.heap.size = g3 at *; generalize w4.alloc (.cells #[.slice BM sx.length dM, .slice A5 ss.length c5] 42) = w5 at *; have hK := trivial; have K := trivial; clear hK K; refine wa_ (a' := ?_) ?_ ?_; rotate_left
  ·show Act.put _ (some 56) _ = _
   simp only [Act.put, s1_, s2_, s3_, ia_, ja_]; rfl
  refine one_ (i := 9) (N := some 57) (f_ 12 10) rfl rfl (by kernel_rfl) (by decide) (fun K hK => ?_); refine wb_ Tryz.func62 (by kernel_rfl) rfl #[.slice (some ⟨g3, 0, none⟩) 2 2] (by rfl) rfl rfl (by (try simp only [List.map_toArray, List.map_cons, List.map_nil]); rfl) ?_
  refine HCO.out.mono ?_; rintro e w6 ⟨v7, rfl, hR, hB⟩; obtain ⟨A8, c8, hs7⟩ := Kd.R_slice hR; subst hs7; have HTL : Az ((sx ++ ss).length = sx.length + ss.length) := ⟨List.length_append⟩; generalize sx ++ ss = ts at *; have HRS8 : Az (Kd.R k52 52 w6 w.heap.size (fun q => g < q) (.slice A8 ts.length c8) ts) := ⟨hR⟩; have HG5 := aM_ (oa_ HG.out (fa_ hHeld.2.2.out hB)); refine ⟨_, rfl, ?_⟩; refine hK.out _ _ ⟨ha_ hB hHeld.1, ha_ hB hHeld.2.1, ⟨fa_ hHeld.2.2.out hB⟩⟩ (fun hHeld => ?_); clear hK K; refine wa_ (a' := ?_) ?_ ?_; rotate_left
  ·show Act.put _ (some 57) _ = _
   simp only [Act.put, s1_, s2_, s3_, ia_, ja_]; rfl
  refine pU_ 10 58 ?_ (f_ 12 11) rfl rfl (by kernel_rfl) (fun _ _ _ h => h) (by rfl) ?_ ?_ ?_ ?_; rotate_left
  ·intro w'
   go_simp; try with_reducible rfl
  rotate_left
  ·simp only [Act.put, s1_, s2_, s3_, ia_, ja_]
   rfl
  refine qg_ (i := 11) (N := none) (f_ 12 12) rfl rfl (by kernel_rfl) (by decide) (fun K hK => ?_); have hz := hHeld.2.1; have hy := da_ HG5.out 5; refine og_ (w1 := ?_) (by rfl) rfl ?_ ?_; rotate_left
  ·go_simp
   rfl
  refine hK.out _ _ ?_; clear hK K; refine je_ (by kernel_rfl) ?_; have HG7 : Az ((w6.setCell ⟨g, 5, none⟩ (.slice A8 ts.length c8)).heap[g]? = some (.cells #[.string id, .int .i64 p5, .int .i64 d5, .slice A7 zs.length c7, .slice AM RR.length cM, .slice A8 ts.length c8] 44 (0, 0))) := ⟨by simpa using sa_ HG5.out 5 (.slice A8 ts.length c8)⟩; have HB5 := hHeld.2.2; have HSR7 : Az ((w6.setCell ⟨g, 5, none⟩ (.slice A8 ts.length c8)).heap[w.heap.size + 1]? = some (.cells #[.string ⟨#[]⟩, .int .i64 0, .int .i64 0, .slice none 0 0, .slice none 0 0, .slice none 0 0] 44 (0, 0))) := ⟨(heap_setCell_other w6 ⟨g, 5, none⟩ _ _ HGE.out.2).trans (oa_ HSR6.out HB5.out)⟩; have HW7 : Az (Below w.heap.size w (w6.setCell ⟨g, 5, none⟩ (.slice A8 ts.length c8))) := ⟨Below.setCell (p := ⟨g, 5, none⟩) (fa_ HW6.out HB5.out) HGE.out.1 _⟩; have HY7 := aM_ (Kd.R_far (Kd.R_below HY6.out HB5.out) (p := ⟨g, 5, none⟩) (fun q hq => Nat.ne_of_gt hq) (.slice A8 ts.length c8)); have HRM7 := aM_ (Kd.R_far (Kd.R_below HRM6.out HB5.out) (p := ⟨g, 5, none⟩) (fun q hq => hq.2) (.slice A8 ts.length c8)); have HT7 := aM_ (Kd.R_far HRS8.out (p := ⟨g, 5, none⟩) (fun q hq => Nat.ne_of_gt hq) (.slice A8 ts.length c8)); generalize w6.setCell ⟨g, 5, none⟩ (.slice A8 ts.length c8) = W7 at *; have HYL7 : Az ((zs.length : Int) + 1000 * (td_ l j + 1) ≤ 1000 * l.length ∧ (ts.length : Int) + 1000 * (td_ l j + 1) ≤ 1000 * l.length) := ⟨by rw [HZL.out, HTL.out]; have h1 := HYL.out; have h2 := HLX3.out; have h3 := HPL1.out; have h4 := HSX.out.1; omega⟩; have HYM7 : Az (zs.length ≤ 1000 * l.length ∧ ts.length ≤ 1000 * l.length) := ⟨by rw [HZL.out, HTL.out]; have h1 := HYL.out; have h2 := HLX3.out; have h4 := HSX.out.1; omega⟩; clear hHeld HB5 HG5 HG6 HSR6 HW6 HY6 HT6 HRM6 HRS8 HCO HSZ HG hl5 hg5 hz hy HYL
  go_wp2_with fail
  refine (HPW.out _ HW7.out).mono ?_; rintro e W8 ⟨rfl, hB⟩; replace HG7 := aM_ (oa_ HG7.out hB); replace HSR7 := aM_ (oa_ HSR7.out hB); replace HY7 := aM_ (Kd.R_below HY7.out hB); replace HT7 := aM_ (Kd.R_below HT7.out hB); replace HRM7 := aM_ (Kd.R_below HRM7.out hB); replace HW7 : Az (Below w.heap.size w W8) := ⟨fa_ HW7.out hB⟩; have hp := HPL1.out; clear hB HPW HPL1; generalize td_ l (j : Int) = q at *
  go_wp2
  go_roundg ((q + 1).toNat)
  case measure => omega
  case rel => exact ⟨q, n, zs, ts, A7, c7, A8, c8, rfl, by omega, by omega, by omega, HYL7, HYM7, HE1, HG7, HSR7, HY7, HRM7, HT7, HW7⟩
theorem ym_ (A : Option Addr) (c : Nat) (l : List S44) (id : BA) (w : World) (hr : Kd.C k44 w A l.length l) (hc : l.length ≤ c) (hi : xd_ (hitL id) l < 0) :
  Calls Tryz.prog 23 #[.slice A l.length c, .string id] w fun e w' => e = .returned (.tuple #[.agg #[.string ⟨#[]⟩, .int .i64 0, .int .i64 0, .slice none 0 0, .slice none 0 0, .slice none 0 0], .bool false]) ∧ Below w.heap.size w w' := by
 have hmf : ∀ (fn : Fn) (first cap : Array Value) (w : World), (Instr.makeFunc fn first cap).run Tryz.prog w = .ok (.func fn first cap) w := fun _ _ _ _ => rfl
 have HB2 : Az (Below w.heap.size w ((w.alloc (.cells #[.string id] 9)).alloc (.cells #[.string ⟨#[]⟩, .int .i64 0, .int .i64 0, .slice none 0 0, .slice none 0 0, .slice none 0 0] 44))) := ⟨aa_ (aa_ (Below.refl _ _) _) _⟩
 have HP2 : Az (((w.alloc (.cells #[.string id] 9)).alloc (.cells #[.string ⟨#[]⟩, .int .i64 0, .int .i64 0, .slice none 0 0, .slice none 0 0, .slice none 0 0] 44)).heap[w.heap.size]? = some (.cells #[.string id] 9 (0, 0))) := ⟨oa_ (ra_ w _) (aa_ (Below.refl _ _) _)⟩
 have HS2 : Az (((w.alloc (.cells #[.string id] 9)).alloc (.cells #[.string ⟨#[]⟩, .int .i64 0, .int .i64 0, .slice none 0 0, .slice none 0 0, .slice none 0 0] 44)).heap[w.heap.size + 1]? = some (.cells #[.string ⟨#[]⟩, .int .i64 0, .int .i64 0, .slice none 0 0, .slice none 0 0, .slice none 0 0] 44 (0, 0))) := ⟨by have := ra_ (w.alloc (.cells #[.string id] 9)) (.cells #[.string ⟨#[]⟩, .int .i64 0, .int .i64 0, .slice none 0 0, .slice none 0 0, .slice none 0 0] 44); simpa using this⟩
 have HIX := aM_ (jg_ (.func (.func 57) #[] #[.pointer (some ⟨w.heap.size, 0, none⟩)]) A c l (hitL id) _ (Kd.C_below hr HB2.out) hc (nh_ w.heap.size id _ (ba_ HP2.out 0)))
 generalize xd_ (hitL id) l = q at *
 have hnk : decide (q < 0) = true := decide_eq_true hi
 have hu1 := Tryz.underlying44
 clear hr hc hi
 go_enter Tryz.func23, Tryz.ntmps23
 go_wp2_with fail
 generalize (w.alloc (.cells #[.string id] 9)).alloc (.cells #[.string ⟨#[]⟩, .int .i64 0, .int .i64 0, .slice none 0 0, .slice none 0 0, .slice none 0 0] 44) = W2 at *
 refine HIX.out.mono ?_
 rintro e W3 ⟨rfl, hB⟩
 have HS3 := aM_ (oa_ HS2.out hB)
 have HB3 : Az (Below w.heap.size w W3) := ⟨fa_ HB2.out hB⟩
 clear hB HIX
 have hb0 := ba_ HS3.out 0
 have hf0 := da_ HS3.out 0
 have hb1 := ba_ HS3.out 1
 have hf1 := da_ HS3.out 1
 have hb2 := ba_ HS3.out 2
 have hf2 := da_ HS3.out 2
 have hb3 := ba_ HS3.out 3
 have hf3 := da_ HS3.out 3
 have hb4 := ba_ HS3.out 4
 have hf4 := da_ HS3.out 4
 have hb5 := ba_ HS3.out 5
 have hf5 := da_ HS3.out 5
 go_wp2
 have hb7 : ((((((W3.setCell ⟨w.heap.size + 1, 0, none⟩ (.string ⟨#[]⟩)).setCell ⟨w.heap.size + 1, 1, none⟩ (.int .i64 0)).setCell ⟨w.heap.size + 1, 2, none⟩ (.int .i64 0)).setCell ⟨w.heap.size + 1, 3, none⟩ (.slice none 0 0)).setCell ⟨w.heap.size + 1, 4, none⟩ (.slice none 0 0)).setCell ⟨w.heap.size + 1, 5, none⟩ (.slice none 0 0)).heap[w.heap.size + 1]? = some (.cells #[.string ⟨#[]⟩, .int .i64 0, .int .i64 0, .slice none 0 0, .slice none 0 0, .slice none 0 0] 44 (0, 0)) := by simpa using (sa_ (sa_ (sa_ (sa_ (sa_ (sa_ HS3.out 0 (.string ⟨#[]⟩)) 1 (.int .i64 0)) 2 (.int .i64 0)) 3 (.slice none 0 0)) 4 (.slice none 0 0)) 5 (.slice none 0 0))
 refine bodyPost_ret (vl_ rfl _ _ (w.heap.size + 1) 44 #[.string ⟨#[]⟩, .int .i64 0, .int .i64 0, .slice none 0 0, .slice none 0 0, .slice none 0 0] (0, 0) _ rfl hb7 Tryz.underlying44 rfl (by kernel_rfl)) rfl ?_
 exact ⟨rfl, (Below.setCell (p := ⟨w.heap.size + 1, 5, none⟩) (Below.setCell (p := ⟨w.heap.size + 1, 4, none⟩) (Below.setCell (p := ⟨w.heap.size + 1, 3, none⟩) (Below.setCell (p := ⟨w.heap.size + 1, 2, none⟩) (Below.setCell (p := ⟨w.heap.size + 1, 1, none⟩) (Below.setCell (p := ⟨w.heap.size + 1, 0, none⟩) HB3.out (Nat.le_succ _) (.string ⟨#[]⟩)) (Nat.le_succ _) (.int .i64 0)) (Nat.le_succ _) (.int .i64 0)) (Nat.le_succ _) (.slice none 0 0)) (Nat.le_succ _) (.slice none 0 0)) (Nat.le_succ _) (.slice none 0 0))⟩
theorem idxOf_lt {α : Type} (p : α → Bool) (l : List α) (k : Nat) (h : xd_ p l = (k : Int)) : k < l.length ∧ True := by
 unfold xd_ at h
 cases hf : l.findIdx? p with
 | none => rw [hf] at h; exact absurd h (by simp)
 | some i =>
  rw [hf] at h; have hi : i = k := by exact Int.ofNat.inj h
  subst hi; rw [List.findIdx?_eq_some_iff_getElem] at hf; exact ⟨hf.1, trivial⟩
theorem cv_ {α : Type} (p : α → Bool) (l : List α) (h : ¬ xd_ p l < 0) : ∃ k : Nat, xd_ p l = (k : Int) ∧ k < l.length := by
 refine ⟨(xd_ p l).toNat, ?_⟩
 have : xd_ p l = ((xd_ p l).toNat : Int) := by omega
 exact ⟨this, (idxOf_lt p l _ this).1⟩
theorem gi_ {l : List S44} (h : yi_ l) : ∀ (n : Nat) (a : Int), sf_ l n a [] = []
 | 0, _ => rfl
 | n + 1, a => by
  rw [sf_]
  split
  ·rename_i hw
   have hr2 : 0 ≤ a ∧ a ≤ (l.length : Int) - 1 := by
    unfold jb_ at hw
    simpa using hw
   obtain ⟨k, rfl⟩ : ∃ k : Nat, a = (k : Int) := ⟨a.toNat, by omega⟩; have hk : k < l.length := by omega
   have hy : ya_ l (k : Int) = l[k] := by
    show l.getD (k : Int).toNat _ = _; rw [Int.toNat_natCast, List.getD_eq_getElem?_getD, List.getElem?_eq_getElem hk]; rfl
   rw [hy, (h _ (List.getElem_mem hk)).2, List.nil_append]; exact gi_ h n _
  rfl
def okRes (l : List S44) : Prop := yi_ l ∧ l.length ≤ 100 ∧ ∀ x ∈ l, x.f3.length ≤ 5
def resP (l : List S44) (id : BA) : ByteArray × Int × Int × List S46 × List S56 × List S52 × Bool :=
 if xd_ (hitL id) l < 0 then (⟨#[]⟩, 0, 0, [], [], [], false) else (id, (ya_ l (xd_ (hitL id) l)).f1, (ya_ l (xd_ (hitL id) l)).f2, lexP l (xd_ (hitL id) l).toNat, [], [], true)
def vo_ (l : List S44) : Bool := (l.all fun x => x.f4.isEmpty && x.f5.isEmpty && decide (x.f3.length ≤ 5)) && decide (l.length ≤ 100)
theorem okRes_of {l : List S44} (h : vo_ l = true) : okRes l := by
 unfold vo_ at h
 simp only [Bool.and_eq_true, decide_eq_true_eq] at h
 refine ⟨fun x hx => ?_, h.2, fun x hx => ?_⟩
 ·have := List.all_eq_true.1 h.1 x hx
  simp only [Bool.and_eq_true, List.isEmpty_iff] at this; exact this.1
 have := List.all_eq_true.1 h.1 x hx
 simp only [Bool.and_eq_true, decide_eq_true_eq] at this
 exact this.2
noncomputable def blob_Resolve.f (l : List S44) (id : BA) : Option (ByteArray × Int × Int × List S46 × List S56 × List S52 × Bool) := if vo_ l = true then some (resP l id) else none
theorem blob_Resolve.calls (A0 : Option Addr) (c0 : Nat) (l0 : List S44) (id : BA) (r0 : BA) (r1 r2 : Int) (r3 : List S46) (r4 : List S56) (r5 : List S52) (r6 : Bool) (w : World) (hr0 : Kd.C k44 w A0 l0.length l0) (hc0 : l0.length ≤ c0) (h : blob_Resolve.f l0 id = some (r0, r1, r2, r3, r4, r5, r6)) :
  Calls Tryz.prog 23 #[.slice A0 l0.length c0, .string id] w fun e w' => ∃ v3 v4 v5, e = .returned (.tuple #[.agg #[.string r0, .int .i64 r1, .int .i64 r2, v3, v4, v5], .bool r6]) ∧ Kd.R k46 46 w' w.heap.size (fun _ => True) v3 r3 ∧ Kd.S k56 56 w' w.heap.size (fun _ => True) v4 r4 ∧ Kd.S k52 52 w' w.heap.size (fun _ => True) v5 r5 ∧ Below w.heap.size w w' := by
 unfold blob_Resolve.f at h
 by_cases hob : vo_ l0 = true
 ·rw [if_pos hob] at h
  have ho := okRes_of hob; have h := Option.some.inj h; unfold resP at h
  by_cases hi : xd_ (hitL id) l0 < 0
  (focus (rw [if_pos hi] at h; simp only [Prod.mk.injEq] at h; obtain ⟨rfl, rfl, rfl, rfl, rfl, rfl, rfl⟩ := h; refine (ym_ A0 c0 l0 id w hr0 hc0 hi).mono ?_; rintro e w' ⟨rfl, hb⟩; exact ⟨_, _, _, rfl, Kd.R_nil _ _ _ _ _, Kd.S_nil _ _ _ _ _, Kd.S_nil _ _ _ _ _, hb⟩)); rw [if_neg hi] at h; obtain ⟨k, hk, hlt⟩ := cv_ _ _ hi; rw [hk] at h; simp only [Prod.mk.injEq, Int.toNat_natCast] at h; obtain ⟨rfl, rfl, rfl, rfl, rfl, rfl, rfl⟩ := h; have hR : me_ l0 k = [] := pf_ ho.1 _ _; have hS : styP l0 k = [] := gi_ ho.1 _ _; have hA : wr_ l0 := ⟨ho.2.1, fun x hx => ⟨by have := ho.2.2 x hx; omega, by rw [(ho.1 x hx).1]; exact ⟨by simp, fun r hr => by cases hr⟩, by rw [(ho.1 x hx).2]; exact ⟨by simp, fun r hr => by cases hr⟩⟩⟩; refine (ji_ A0 c0 l0 id k w hr0 hc0 hA hk hlt).mono ?_; rintro e w' ⟨v3, v4, v5, rfl, h3, h4, h5, hb⟩; rw [hR] at h4; rw [hS] at h5; exact ⟨v3, v4, v5, rfl, Kd.R_mono h3 (fun _ _ => trivial), Kd.S_of_none (Kd.R_mono h4 (fun _ _ => trivial)), Kd.S_of_none (Kd.R_mono h5 (fun _ _ => trivial)), hb⟩
 rw [if_neg hob] at h
 cases h
noncomputable def en5 : List S44 := [⟨⟨#[101, 110]⟩, -1, 0, [⟨⟨#[109, 97, 121]⟩, 1, 5⟩], [], []⟩]
theorem di_ : (enc8 en5).length = 85 := by decide +kernel
theorem gv_ : yi_ en5 := gu_ (by decide +kernel)
theorem do_ : bf_ en5 = true := by
 rw [← mr_ gv_]
 decide +kernel
theorem wq_ : ib_ (pLoc (enc8 en5)) (enc8 en5) 0 = some (en5, 85) := by kernel_rfl
theorem tn_ : ib_ (pLoc []) [] 0 = none := by kernel_rfl
theorem en5_dec : decP (enc8 en5) = some en5 := by
 unfold decP
 rw [wq_]
 show (if 85 < (enc8 en5).length then none else if bf_ en5 = true then some en5 else none) = some en5
 rw [di_, do_]
 rfl
theorem nil5_dec : decP [] = none := by
 unfold decP
 rw [tn_]
theorem en5_hit : resP en5 ⟨#[101, 110]⟩ = (⟨#[101, 110]⟩, -1, 0, [⟨⟨#[109, 97, 121]⟩, 1, 5⟩], [], [], true) := by kernel_rfl
theorem en5_miss : resP en5 ⟨#[100, 101]⟩ = (⟨#[]⟩, 0, 0, [], [], [], false) := by kernel_rfl
theorem en5_ok : wo_ en5 := mu_ (by decide +kernel)
theorem en5_same : vi_ en5 en5 = true := by unfold vi_; rw [beq_self_eq_true]
theorem C_one {α : Type} (d : Kd α) {W : World} {g t : Nat} {cs : List Value} {x : α} (hb : W.heap[g]? = some (.cells cs.toArray t (0, 0))) (hK : d.K W x cs) (hsz : cs.length = d.sz) : d.C W (some ⟨g, 0, none⟩) 1 [x] :=
 ⟨rfl, by omega, fun _ => ⟨_, rfl, fun j p hj => by
  have hj0 : j = 0 := by
   cases j with
   | zero => rfl
   | succ j => simp at hj
  subst hj0; have hp : x = p := by simpa using hj
  subst hp; refine ⟨cs, hsz, hK, fun i u hi => ?_⟩; have h1 := ba_ hb i; rw [Nat.zero_mul, Nat.zero_add, nk_]; rw [h1]
  simpa using hi⟩⟩
theorem oq_ (w : World) : Calls Tryz.prog 11 #[] w fun e w' => e = .returned (.bool true) ∧ Below w.heap.size w w' := by
 have HD0 := aM_ (vj_ none 0 [] w ⟨rfl, by simp, fun h => absurd h (by simp)⟩ (Nat.le_refl _) (by simp) (fun l q h => by rw [tn_] at h; cases h))
 rw [nil5_dec] at HD0
 go_enter Tryz.func11, Tryz.ntmps11
 go_wp2_with fail
 refine HD0.out.mono ?_
 rintro e w1 ⟨v0, rfl, hv0, hB1⟩
 have hv1 : v0 = .slice none 0 0 := hv0
 subst hv1
 have HB1 := aM_ hB1
 clear hB1 hv0 HD0
 go_wp2_with fail
 have HX : Az ((w1.alloc (.cells #[.string ⟨#[109, 97, 121]⟩, .int .i64 1, .int .i64 5] 46)).heap[w1.heap.size]? = some (.cells #[.string ⟨#[109, 97, 121]⟩, .int .i64 1, .int .i64 5] 46 (0, 0))) := ⟨ra_ w1 _⟩
 have HCX : Az (Kd.C k46 (w1.alloc (.cells #[.string ⟨#[109, 97, 121]⟩, .int .i64 1, .int .i64 5] 46)) (some ⟨w1.heap.size, 0, none⟩) 1 [⟨⟨#[109, 97, 121]⟩, 1, 5⟩]) := ⟨C_one k46 (cs := [.string ⟨#[109, 97, 121]⟩, .int .i64 1, .int .i64 5]) HX.out (k46_mk _ _) rfl⟩
 have HB3 : Az (Below w.heap.size w ((w1.alloc (.cells #[.string ⟨#[109, 97, 121]⟩, .int .i64 1, .int .i64 5] 46)).alloc (.cells #[.string ⟨#[101, 110]⟩, .int .i64 (-1), .int .i64 0, .slice (some ⟨w1.heap.size, 0, none⟩) 1 1, .slice none 0 0, .slice none 0 0] 44))) := ⟨fa_ HB1.out (aa_ (aa_ (Below.refl _ _) _) _)⟩
 have HC3 : Az (Kd.C k44 ((w1.alloc (.cells #[.string ⟨#[109, 97, 121]⟩, .int .i64 1, .int .i64 5] 46)).alloc (.cells #[.string ⟨#[101, 110]⟩, .int .i64 (-1), .int .i64 0, .slice (some ⟨w1.heap.size, 0, none⟩) 1 1, .slice none 0 0, .slice none 0 0] 44)) (some ⟨w1.heap.size + 1, 0, none⟩) en5.length en5) := ⟨by
  have hn := ra_ (w1.alloc (.cells #[.string ⟨#[109, 97, 121]⟩, .int .i64 1, .int .i64 5] 46)) (.cells #[.string ⟨#[101, 110]⟩, .int .i64 (-1), .int .i64 0, .slice (some ⟨w1.heap.size, 0, none⟩) 1 1, .slice none 0 0, .slice none 0 0] 44); rw [show (w1.alloc (.cells #[.string ⟨#[109, 97, 121]⟩, .int .i64 1, .int .i64 5] 46)).heap.size = w1.heap.size + 1 by simp] at hn
  exact C_one k44 (cs := [.string ⟨#[101, 110]⟩, .int .i64 (-1), .int .i64 0, .slice (some ⟨w1.heap.size, 0, none⟩) 1 1, .slice none 0 0, .slice none 0 0]) hn (ls_ _ (⟨⟨#[101, 110]⟩, -1, 0, [⟨⟨#[109, 97, 121]⟩, 1, 5⟩], [], []⟩ : S44) (Nat.le_refl _) (Kd.C_alloc HCX.out _) (Nat.le_refl _) (Kd.C_nil _ _) (Nat.le_refl _) (Kd.C_nil _ _)) rfl⟩
 have HENC : Az (Calls Tryz.prog 14 #[.slice (some ⟨w1.heap.size + 1, 0, none⟩) 1 1] ((w1.alloc (.cells #[.string ⟨#[109, 97, 121]⟩, .int .i64 1, .int .i64 5] 46)).alloc (.cells #[.string ⟨#[101, 110]⟩, .int .i64 (-1), .int .i64 0, .slice (some ⟨w1.heap.size, 0, none⟩) 1 1, .slice none 0 0, .slice none 0 0] 44)) fun e w' => ∃ v : Value, e = .returned v ∧ Kd.R (Kd.int .u8) 5 w' ((w1.alloc (.cells #[.string ⟨#[109, 97, 121]⟩, .int .i64 1, .int .i64 5] 46)).alloc (.cells #[.string ⟨#[101, 110]⟩, .int .i64 (-1), .int .i64 0, .slice (some ⟨w1.heap.size, 0, none⟩) 1 1, .slice none 0 0, .slice none 0 0] 44)).heap.size (fun _ => True) v (enc8 en5) ∧ Below ((w1.alloc (.cells #[.string ⟨#[109, 97, 121]⟩, .int .i64 1, .int .i64 5] 46)).alloc (.cells #[.string ⟨#[101, 110]⟩, .int .i64 (-1), .int .i64 0, .slice (some ⟨w1.heap.size, 0, none⟩) 1 1, .slice none 0 0, .slice none 0 0] 44)).heap.size ((w1.alloc (.cells #[.string ⟨#[109, 97, 121]⟩, .int .i64 1, .int .i64 5] 46)).alloc (.cells #[.string ⟨#[101, 110]⟩, .int .i64 (-1), .int .i64 0, .slice (some ⟨w1.heap.size, 0, none⟩) 1 1, .slice none 0 0, .slice none 0 0] 44)) w') := ⟨dp_ _ 1 en5 _ HC3.out (Nat.le_refl _) (by rw [di_]; omega)⟩
 have HDEC : Az (∀ (S : Option Addr) (k : Nat) (W : World), Kd.C (Kd.int .u8) W S (enc8 en5).length (enc8 en5) → (enc8 en5).length ≤ k → Calls Tryz.prog 15 #[.slice S (enc8 en5).length k] W fun e w' => ∃ v : Value, e = .returned (.tuple #[v, .bool true]) ∧ Kd.R k44 44 w' W.heap.size (fun k => W.heap.size ≤ k) v en5 ∧ Below W.heap.size W w') := ⟨fun S k W h1 h2 => by
  have h := vj_ S k (enc8 en5) W h1 h2 (by rw [di_]; omega) (fun l q hp => by rw [wq_] at hp; cases hp; exact en5_ok); rw [en5_dec] at h
  exact h⟩
 have HRES : Az (∀ (W : World), Below ((w1.alloc (.cells #[.string ⟨#[109, 97, 121]⟩, .int .i64 1, .int .i64 5] 46)).alloc (.cells #[.string ⟨#[101, 110]⟩, .int .i64 (-1), .int .i64 0, .slice (some ⟨w1.heap.size, 0, none⟩) 1 1, .slice none 0 0, .slice none 0 0] 44)).heap.size ((w1.alloc (.cells #[.string ⟨#[109, 97, 121]⟩, .int .i64 1, .int .i64 5] 46)).alloc (.cells #[.string ⟨#[101, 110]⟩, .int .i64 (-1), .int .i64 0, .slice (some ⟨w1.heap.size, 0, none⟩) 1 1, .slice none 0 0, .slice none 0 0] 44)) W → Calls Tryz.prog 23 #[.slice (some ⟨w1.heap.size + 1, 0, none⟩) 1 1, .string ⟨#[101, 110]⟩] W fun e w' => ∃ v3 v4 v5, e = .returned (.tuple #[.agg #[.string ⟨#[101, 110]⟩, .int .i64 (-1), .int .i64 0, v3, v4, v5], .bool true]) ∧ Kd.R k46 46 w' W.heap.size (fun _ => True) v3 [⟨⟨#[109, 97, 121]⟩, 1, 5⟩] ∧ Kd.S k56 56 w' W.heap.size (fun _ => True) v4 [] ∧ Kd.S k52 52 w' W.heap.size (fun _ => True) v5 [] ∧ Below W.heap.size W w') := ⟨fun W hB => blob_Resolve.calls _ 1 en5 _ _ _ _ _ _ _ _ W (Kd.C_below HC3.out hB) (Nat.le_refl _) (by unfold blob_Resolve.f; rw [if_pos (by decide +kernel), en5_hit])⟩
 have HMIS : Az (∀ (W : World), Below ((w1.alloc (.cells #[.string ⟨#[109, 97, 121]⟩, .int .i64 1, .int .i64 5] 46)).alloc (.cells #[.string ⟨#[101, 110]⟩, .int .i64 (-1), .int .i64 0, .slice (some ⟨w1.heap.size, 0, none⟩) 1 1, .slice none 0 0, .slice none 0 0] 44)).heap.size ((w1.alloc (.cells #[.string ⟨#[109, 97, 121]⟩, .int .i64 1, .int .i64 5] 46)).alloc (.cells #[.string ⟨#[101, 110]⟩, .int .i64 (-1), .int .i64 0, .slice (some ⟨w1.heap.size, 0, none⟩) 1 1, .slice none 0 0, .slice none 0 0] 44)) W → Calls Tryz.prog 23 #[.slice (some ⟨w1.heap.size + 1, 0, none⟩) 1 1, .string ⟨#[100, 101]⟩] W fun e w' => ∃ v3 v4 v5, e = .returned (.tuple #[.agg #[.string ⟨#[]⟩, .int .i64 0, .int .i64 0, v3, v4, v5], .bool false]) ∧ Kd.R k46 46 w' W.heap.size (fun _ => True) v3 [] ∧ Kd.S k56 56 w' W.heap.size (fun _ => True) v4 [] ∧ Kd.S k52 52 w' W.heap.size (fun _ => True) v5 [] ∧ Below W.heap.size W w') := ⟨fun W hB => blob_Resolve.calls _ 1 en5 _ _ _ _ _ _ _ _ W (Kd.C_below HC3.out hB) (Nat.le_refl _) (by unfold blob_Resolve.f; rw [if_pos (by decide +kernel), en5_miss])⟩
 have HRT : Az (∀ (W : World), Below ((w1.alloc (.cells #[.string ⟨#[109, 97, 121]⟩, .int .i64 1, .int .i64 5] 46)).alloc (.cells #[.string ⟨#[101, 110]⟩, .int .i64 (-1), .int .i64 0, .slice (some ⟨w1.heap.size, 0, none⟩) 1 1, .slice none 0 0, .slice none 0 0] 44)).heap.size ((w1.alloc (.cells #[.string ⟨#[109, 97, 121]⟩, .int .i64 1, .int .i64 5] 46)).alloc (.cells #[.string ⟨#[101, 110]⟩, .int .i64 (-1), .int .i64 0, .slice (some ⟨w1.heap.size, 0, none⟩) 1 1, .slice none 0 0, .slice none 0 0] 44)) W → Calls Tryz.prog 16 #[.slice (some ⟨w1.heap.size + 1, 0, none⟩) 1 1] W fun e w' => e = .returned (.bool true) ∧ Below W.heap.size W w') := ⟨fun W hB => by
  have h := uk_ (some ⟨w1.heap.size + 1, 0, none⟩) 1 en5 W (Kd.C_below HC3.out hB) (Nat.le_refl _) en5_ok; rw [do_] at h
  exact h⟩
 have HSM : Az (∀ (S : Option Addr) (k : Nat) (W : World), Below ((w1.alloc (.cells #[.string ⟨#[109, 97, 121]⟩, .int .i64 1, .int .i64 5] 46)).alloc (.cells #[.string ⟨#[101, 110]⟩, .int .i64 (-1), .int .i64 0, .slice (some ⟨w1.heap.size, 0, none⟩) 1 1, .slice none 0 0, .slice none 0 0] 44)).heap.size ((w1.alloc (.cells #[.string ⟨#[109, 97, 121]⟩, .int .i64 1, .int .i64 5] 46)).alloc (.cells #[.string ⟨#[101, 110]⟩, .int .i64 (-1), .int .i64 0, .slice (some ⟨w1.heap.size, 0, none⟩) 1 1, .slice none 0 0, .slice none 0 0] 44)) W → Kd.C k44 W S en5.length en5 → en5.length ≤ k → Calls Tryz.prog 18 #[.slice (some ⟨w1.heap.size + 1, 0, none⟩) 1 1, .slice S 1 k] W fun e w' => e = .returned (.bool true) ∧ Below W.heap.size W w') := ⟨fun S k W hB h1 h2 => by
  have h := gt_ (some ⟨w1.heap.size + 1, 0, none⟩) S 1 k en5 en5 W (Kd.C_below HC3.out hB) (Nat.le_refl _) (by rw [di_]; omega) h1 h2 (by rw [di_]; omega); rw [en5_same] at h
  exact h⟩
 have HEL : Az ((enc8 en5).length = 85) := ⟨di_⟩
 generalize enc8 en5 = eb at *
 generalize (w1.alloc (.cells #[.string ⟨#[109, 97, 121]⟩, .int .i64 1, .int .i64 5] 46)).alloc (.cells #[.string ⟨#[101, 110]⟩, .int .i64 (-1), .int .i64 0, .slice (some ⟨w1.heap.size, 0, none⟩) 1 1, .slice none 0 0, .slice none 0 0] 44) = W3 at *
 generalize w1.heap.size + 1 = g at *
 clear HX HCX
 refine HENC.out.mono ?_
 rintro e w4 ⟨v4, rfl, hr4, hb4⟩
 obtain ⟨S4, k4, hs4⟩ := Kd.R_slice hr4
 subst hs4
 have HD := aM_ (HDEC.out S4 k4 w4 (Kd.R_reads' hr4).2.2 (Kd.R_reads' hr4).2.1)
 have HW4 := aM_ hb4
 clear hr4 hb4 HENC HDEC
 go_wp2_with fail
 refine HD.out.mono ?_
 rintro e w5 ⟨v5, rfl, hr5, hb5⟩
 obtain ⟨S5, k5, hs5⟩ := Kd.R_slice hr5
 have hs5' : v5 = .slice S5 1 k5 := hs5
 subst hs5'
 have HR5 := aM_ hr5
 have HW5 : Az (Below W3.heap.size W3 w5) := ⟨fa_ HW4.out hb5⟩
 clear hr5 hb5 HD hs5
 go_wp2_with fail
 refine (HRES.out _ HW5.out).mono ?_
 rintro e w6 ⟨v3, v4, v5, rfl, h3, h4, h5, hb6⟩
 obtain ⟨A3, c3, hs3⟩ := Kd.R_slice h3
 have hs3' : v3 = .slice A3 1 c3 := hs3
 obtain ⟨A4, c4, hs4⟩ := Kd.R_slice (Kd.S_R h4)
 have hs4' : v4 = .slice A4 0 c4 := hs4
 obtain ⟨A5, c5, hs5⟩ := Kd.R_slice (Kd.S_R h5)
 have hs5' : v5 = .slice A5 0 c5 := hs5
 subst hs3' hs4' hs5'
 have HW6 : Az (Below W3.heap.size W3 w6) := ⟨fa_ HW5.out hb6⟩
 have HR6 := aM_ (Kd.R_below HR5.out hb6)
 clear h3 h4 h5 hb6 hs3 hs4 hs5 HRES HR5 HW5
 go_wp2_with fail
 have HBK : Az ((w6.alloc (.cells #[.string ⟨#[101, 110]⟩, .int .i64 (-1), .int .i64 0, .slice A3 1 c3, .slice A4 0 c4, .slice A5 0 c5] 44)).heap[w6.heap.size]? = some (.cells #[.string ⟨#[101, 110]⟩, .int .i64 (-1), .int .i64 0, .slice A3 1 c3, .slice A4 0 c4, .slice A5 0 c5] 44 (0, 0))) := ⟨ra_ w6 _⟩
 have HW7 : Az (Below W3.heap.size W3 (w6.alloc (.cells #[.string ⟨#[101, 110]⟩, .int .i64 (-1), .int .i64 0, .slice A3 1 c3, .slice A4 0 c4, .slice A5 0 c5] 44))) := ⟨fa_ HW6.out (aa_ (Below.refl _ _) _)⟩
 have HR7 := aM_ (Kd.R_alloc HR6.out (.cells #[.string ⟨#[101, 110]⟩, .int .i64 (-1), .int .i64 0, .slice A3 1 c3, .slice A4 0 c4, .slice A5 0 c5] 44))
 generalize w6.alloc (.cells #[.string ⟨#[101, 110]⟩, .int .i64 (-1), .int .i64 0, .slice A3 1 c3, .slice A4 0 c4, .slice A5 0 c5] 44) = w7 at *
 generalize w6.heap.size = g6 at *
 clear HR6 HW6
 refine (HMIS.out _ HW7.out).mono ?_
 rintro e w8 ⟨v3, v4, v5, rfl, h3, h4, h5, hb8⟩
 obtain ⟨B3, d3, hs3⟩ := Kd.R_slice h3
 have hs3' : v3 = .slice B3 0 d3 := hs3
 obtain ⟨B4, d4, hs4⟩ := Kd.R_slice (Kd.S_R h4)
 have hs4' : v4 = .slice B4 0 d4 := hs4
 obtain ⟨B5, d5, hs5⟩ := Kd.R_slice (Kd.S_R h5)
 have hs5' : v5 = .slice B5 0 d5 := hs5
 subst hs3' hs4' hs5'
 have HW8 : Az (Below W3.heap.size W3 w8) := ⟨fa_ HW7.out hb8⟩
 have HR8 := aM_ (Kd.R_below HR7.out hb8)
 have HBK8 := aM_ (oa_ HBK.out hb8)
 clear h3 h4 h5 hb8 hs3 hs4 hs5 HMIS HR7 HW7 HBK
 have HRC : Az (∀ o : Obj, Below W3.heap.size W3 (w8.alloc o) ∧ Kd.R k44 44 (w8.alloc o) w4.heap.size (fun k => w4.heap.size ≤ k) (.slice S5 1 k5) en5 ∧ (w8.alloc o).heap[g6]? = some (.cells #[.string ⟨#[101, 110]⟩, .int .i64 (-1), .int .i64 0, .slice A3 1 c3, .slice A4 0 c4, .slice A5 0 c5] 44 (0, 0))) := ⟨fun o => ⟨fa_ HW8.out (aa_ (Below.refl _ _) _), Kd.R_alloc HR8.out o, oa_ HBK8.out (aa_ (Below.refl _ _) _)⟩⟩
 clear HW8 HR8 HBK8
 go_wp2_with fail
 generalize hoo : Obj.cells _ 44 _ = oo
 obtain ⟨hw9, hr9, hg9⟩ := HRC.out oo
 generalize w8.alloc oo = w9 at *
 refine (HRT.out _ hw9).mono ?_
 rintro e w10 ⟨rfl, hb10⟩
 have HW10 : Az (Below W3.heap.size W3 w10) := ⟨fa_ hw9 hb10⟩
 have hr10 := Kd.R_below hr9 hb10
 have HG10 := aM_ (oa_ hg9 hb10)
 have HS10 := aM_ (HSM.out S5 k5 w10 HW10.out (Kd.R_reads' hr10).2.2 (Kd.R_reads' hr10).2.1)
 clear hw9 hr9 hg9 hb10 hr10 HRC HRT HSM hoo
 go_wp2_with fail
 refine HS10.out.mono ?_
 rintro e w11 ⟨rfl, hb11⟩
 have hc3 : w11.cell? ⟨g6, 3, none⟩ = some (.slice A3 1 c3) := ba_ (oa_ HG10.out hb11) 3
 have HF : Az (Below w.heap.size w w11) := ⟨fa_ HB3.out (fa_ HW10.out hb11)⟩
 clear hb11 HS10
 go_wp2
 go_ret
 exact ⟨rfl, HF.out⟩
end Go.Proofs.YtiocgaekoeekgaaGreat.P
end
section
namespace Go.Proofs.YtiocgaekoeekgaaGreat.P
open Go.RowKit YtiocgaekoeekgaaGreatW.PrintWords YtiocgaekoeekgaaGreatW.PrintLast YtiocgaekoeekgaaGreatW.PrintMore
attribute [local go_sem] vb_ tb_ jc_ ic_ lb_ kb_ ub_ sb_   
set_option linter.unusedVariables false
set_option linter.unusedSimpArgs false
noncomputable def l5_within.f (a0 : Int) (a1 : Int) : Option (Int) := if a1 = 0 then (none) else (if (Int.tmod a0 a1) < 0 then (some (wrap64 ((Int.tmod a0 a1) + a1))) else (some (Int.tmod a0 a1)))
theorem l5_within.calls (a0 : Int) (a1 : Int) (r : Int) (w : World) (h : l5_within.f a0 a1 = some r) :
  Calls Tryz.prog 19 #[.int .i64 a0, .int .i64 a1] w fun e w' => e = .returned (.int .i64 r) ∧ Drawn0 w w' := by
 have H : (if a1 = 0 then (none) else (if (Int.tmod a0 a1) < 0 then (some (wrap64 ((Int.tmod a0 a1) + a1))) else (some (Int.tmod a0 a1)))) = some r := h
 clear h
 by_cases c3 : a1 = 0
 ·rw [if_pos c3] at H
  exact absurd H (by simp)
 rw [if_neg c3] at H
 have c3b0 : (a1 == 0) = false := beq_eq_false_iff_ne.mpr c3
 have c3b1 : (a1 != 0) = true := bne_iff_ne.mpr c3
 by_cases c4 : (Int.tmod a0 a1) < 0
 ·rw [if_pos c4] at H
  have c4b0 : decide ((Int.tmod a0 a1) < 0) = true := decide_eq_true c4; clear c4; obtain rfl := Option.some.inj H
  go_enter Tryz.func19, Tryz.ntmps19
  go_wp2
  go_ret
  exact ⟨by first | rfl | (simp; done) | (simp [*]; done), by repeat (first | exact Drawn0.refl _ | apply Drawn0.step)⟩
 rw [if_neg c4] at H
 have c4b0 : decide ((Int.tmod a0 a1) < 0) = false := decide_eq_false c4
 clear c4
 obtain rfl := Option.some.inj H
 go_enter Tryz.func19, Tryz.ntmps19
 go_wp2
 go_ret
 exact ⟨by first | rfl | (simp; done) | (simp [*]; done), by repeat (first | exact Drawn0.refl _ | apply Drawn0.step)⟩
end Go.Proofs.YtiocgaekoeekgaaGreat.P
end
