/- Locales are written as the document says, and read as they were: BlobBack answers true for all that it is given, with no condition. Part 6: contracts of the functions that the law reaches, and words for them. -/
import Derived.Deep.Slices
import Derived.ChangeArms
import Derived.ChangeSame
import Derived.Test.YtiocgaekoeekgaaGreatMBB5
set_option maxHeartbeats 32000000
set_option maxRecDepth 100000
section
namespace Go.Proofs.YtiocgaekoeekgaaGreat.P
open Go.RowKit YtiocgaekoeekgaaGreatW.PrintWords YtiocgaekoeekgaaGreatW.PrintLast YtiocgaekoeekgaaGreatW.PrintMore
attribute [local go_sem] vb_ tb_ fc_ dc_ ob_ nb_ ub_ sb_   
set_option linter.unusedVariables false
set_option linter.unusedSimpArgs false
attribute [local go_sem] Oper.semAt_some
def rm_ (o : Int) : List Int := if o = 0 then [4, 2, 0] else if o = 1 then [4, 0, 2] else [0, 2, 4]
def jh_ (a : Int) : List db_ := [
 (⟨1, [(-1), (-51), (-1), (-51), (-1)], ⟨1, (rm_ a)⟩, 1⟩ : db_),
 (⟨1, [(-1), (-52), (-1), (-52), (-1)], ⟨1, [0, 2, 4]⟩, 0⟩ : db_),
 (⟨1, [(-1), (-2), (-1)], ⟨1, [2, 1, 0]⟩, 0⟩ : db_),
 (⟨1, [(-2), (-1)], ⟨2, [0, 1]⟩, 2⟩ : db_),
 (⟨1, [8, (-4), (-5)], ⟨6, [0, 1, 2]⟩, 1⟩ : db_),
 (⟨1, [(-3)], ⟨7, [0]⟩, 1⟩ : db_),
 (⟨8, [(-1)], ⟨0, [0]⟩, 0⟩ : db_),
 (⟨8, [(-10)], ⟨0, [0]⟩, 0⟩ : db_)]
theorem nh_ (a n : Int) (hn : 0 < n) (hn2 : n ≤ 4611686018427387904) : l5_within.f a n = some (a % n) := by
 unfold l5_within.f
 have h1 := Int.emod_nonneg a (by omega : n ≠ 0)
 have h2 := Int.emod_lt_of_pos a hn
 have h4 : (n.natAbs : Int) = n := by omega
 rw [if_neg (by omega)]
 have h3 := @Int.tmod_eq_emod a n
 by_cases hd : 0 ≤ a ∨ n ∣ a
 ·rw [if_pos hd] at h3
  rw [if_neg (by omega), h3]
  congr 1
  omega
 rw [if_neg hd, h4] at h3
 rw [if_pos (by omega), h3]
 congr 1
 unfold wrap64
 omega
theorem gr_ (a : Int) (w : World) : Calls Tryz.prog 27 #[.int .i64 a] w fun e w' => ∃ v : Value, e = .returned v ∧ Kd.S k56 56 w' w.heap.size (fun _ => True) v (jh_ (a % 3)) ∧ Below w.heap.size w w' := by
 have hw := nh_ a 3 (by decide) (by decide)
 have h0 := Int.emod_nonneg a (by decide : (3 : Int) ≠ 0)
 have h1 := Int.emod_lt_of_pos a (by decide : (0 : Int) < 3)
 obtain ⟨o, ho⟩ : ∃ o : Nat, a % 3 = (o : Int) := ⟨(a % 3).toNat, by omega⟩
 rw [ho] at hw ⊢
 have ho3 : o < 3 := by omega
 have hoz : (o : Int) < 3 := by omega
 have HW := aM_ hw
 clear hw h0 h1 ho
 go_enter Tryz.func27, Tryz.ntmps27
 go_wp2_with fail
 refine (l5_within.calls a 3 (o : Int) _ HW.out).mono ?_
 rintro e W0 ⟨rfl, ⟨⟨nd, rfl⟩⟩⟩
 have hp0 : ((((w.alloc (.cells #[.int .i64 4, .int .i64 2, .int .i64 0] 3)).alloc (.cells #[.int .i64 4, .int .i64 0, .int .i64 2] 3)).alloc (.cells #[.int .i64 0, .int .i64 2, .int .i64 4] 3)).alloc (.cells #[.slice (some ⟨w.heap.size, 0, none⟩) 3 3, .slice (some ⟨w.heap.size + 1, 0, none⟩) 3 3, .slice (some ⟨w.heap.size + 1 + 1, 0, none⟩) 3 3] 35)).heap[w.heap.size + o]? = some (.cells ((rm_ (o : Int)).map (Value.int .i64)).toArray 3 (0, 0)) := by
  rcases (by omega : o = 0 ∨ o = 1 ∨ o = 2) with rfl | rfl | rfl
  ·exact ua_ (ua_ (ua_ (ra_ w _)))
  ·exact ua_ (ua_ (mb_ (by simp)))
  exact ua_ (mb_ (by simp))
 have hb0 : ((((w.alloc (.cells #[.int .i64 4, .int .i64 2, .int .i64 0] 3)).alloc (.cells #[.int .i64 4, .int .i64 0, .int .i64 2] 3)).alloc (.cells #[.int .i64 0, .int .i64 2, .int .i64 4] 3)).alloc (.cells #[.slice (some ⟨w.heap.size, 0, none⟩) 3 3, .slice (some ⟨w.heap.size + 1, 0, none⟩) 3 3, .slice (some ⟨w.heap.size + 1 + 1, 0, none⟩) 3 3] 35)).heap[w.heap.size + 1 + 1 + 1]? = _ := mb_ (by simp)
 have HB0 := aM_ (aa_ (aa_ (aa_ (aa_ (Below.refl w.heap.size w) (.cells #[.int .i64 4, .int .i64 2, .int .i64 0] 3)) (.cells #[.int .i64 4, .int .i64 0, .int .i64 2] 3)) (.cells #[.int .i64 0, .int .i64 2, .int .i64 4] 3)) (.cells #[.slice (some ⟨w.heap.size, 0, none⟩) 3 3, .slice (some ⟨w.heap.size + 1, 0, none⟩) 3 3, .slice (some ⟨w.heap.size + 1 + 1, 0, none⟩) 3 3] 35))
 generalize (((w.alloc (.cells #[.int .i64 4, .int .i64 2, .int .i64 0] 3)).alloc (.cells #[.int .i64 4, .int .i64 0, .int .i64 2] 3)).alloc (.cells #[.int .i64 0, .int .i64 2, .int .i64 4] 3)).alloc (.cells #[.slice (some ⟨w.heap.size, 0, none⟩) 3 3, .slice (some ⟨w.heap.size + 1, 0, none⟩) 3 3, .slice (some ⟨w.heap.size + 1 + 1, 0, none⟩) 3 3] 35) = WL at *
 have hcp : (WL.drewN nd).cell? ⟨w.heap.size + 1 + 1 + 1, o, none⟩ = some (.slice (some ⟨w.heap.size + o, 0, none⟩) 3 3) := by
  rcases (by omega : o = 0 ∨ o = 1 ∨ o = 2) with rfl | rfl | rfl
  ·exact (ba_ hb0 0).trans rfl
  ·exact (ba_ hb0 1).trans rfl
  exact (ba_ hb0 2).trans rfl
 have HPB : Az ((WL.drewN nd).heap[w.heap.size + o]? = some (.cells ((rm_ (o : Int)).map (Value.int .i64)).toArray 3 (0, 0))) := ⟨hp0⟩
 replace HB0 := aM_ (ca_ HB0.out nd)
 have hdl : (rm_ (o : Int)).length = 3 := by
  rcases (by omega : o = 0 ∨ o = 1 ∨ o = 2) with rfl | rfl | rfl <;> rfl
 have HDL := aM_ hdl
 have RL0 := aM_ (RLits.nil (WL.drewN nd) w.heap.size)
 clear hp0 hb0 hdl
 generalize WL.drewN nd = W0 at *
 obtain ⟨pa, hpa⟩ : ∃ pa, pa = w.heap.size + o := ⟨_, rfl⟩
 rw [← hpa] at HPB hcp
 have hpa2 : w.heap.size ≤ pa := by omega
 clear hpa
 have HP1 : Az ((W0.alloc (.cells #[.int .i64 (-1), .int .i64 (-51), .int .i64 (-1), .int .i64 (-51), .int .i64 (-1)] 3)).heap[pa]? = some (.cells ((rm_ (o : Int)).map (Value.int .i64)).toArray 3 (0, 0))) := ⟨ua_ HPB.out⟩
 have hg0 := HB0.out.size
 have RA0 : Az (RLits (W0.alloc (.cells #[.int .i64 (-1), .int .i64 (-51), .int .i64 (-1), .int .i64 (-51), .int .i64 (-1)] 3)) w.heap.size _) := ⟨RL0.out.snoc (aa_ (Below.refl _ _) _) (⟨1, [(-1), (-51), (-1), (-51), (-1)], ⟨1, (rm_ (o : Int))⟩, 1⟩ : db_) W0.heap.size pa (ra_ W0 _) (HP1.out) ⟨by omega, by omega⟩ (.inl rfl)⟩
 have BA0 : Az (Below w.heap.size w (W0.alloc (.cells #[.int .i64 (-1), .int .i64 (-51), .int .i64 (-1), .int .i64 (-51), .int .i64 (-1)] 3))) := ⟨ga_ HB0.out (aa_ (Below.refl _ _) _)⟩
 clear hg0
 go_wp2_with fail
 refine (rb_ 1 (some ⟨W0.heap.size, 0, none⟩) 5 5 1 (some ⟨pa, 0, none⟩) 3 3 1 (W0.alloc (.cells #[.int .i64 (-1), .int .i64 (-51), .int .i64 (-1), .int .i64 (-51), .int .i64 (-1)] 3))).mono ?_
 rintro e W1 ⟨rfl, hb⟩
 have RL1 := aM_ (RA0.out.below hb)
 have HB1 := aM_ (ga_ BA0.out hb)
 clear hb RA0 BA0 RL0 HB0
 generalize W0.heap.size = s0 at *
 have hg1 := HB1.out.size
 have RA1 : Az (RLits ((W1.alloc (.cells #[.int .i64 (-1), .int .i64 (-52), .int .i64 (-1), .int .i64 (-52), .int .i64 (-1)] 3)).alloc (.cells #[.int .i64 0, .int .i64 2, .int .i64 4] 3)) w.heap.size _) := ⟨RL1.out.snoc (aa_ (aa_ (Below.refl _ _) _) _) (⟨1, [(-1), (-52), (-1), (-52), (-1)], ⟨1, [0, 2, 4]⟩, 0⟩ : db_) W1.heap.size (W1.heap.size + 1) (ua_ (ra_ W1 _)) (mb_ (by simp)) ⟨by omega, by omega⟩ (.inr ⟨Nat.le_refl _, Nat.le_succ _⟩)⟩
 have BA1 : Az (Below w.heap.size w ((W1.alloc (.cells #[.int .i64 (-1), .int .i64 (-52), .int .i64 (-1), .int .i64 (-52), .int .i64 (-1)] 3)).alloc (.cells #[.int .i64 0, .int .i64 2, .int .i64 4] 3))) := ⟨ga_ HB1.out (aa_ (aa_ (Below.refl _ _) _) _)⟩
 clear hg1
 go_wp2_with fail
 refine (rb_ 1 (some ⟨W1.heap.size, 0, none⟩) 5 5 1 (some ⟨W1.heap.size + 1, 0, none⟩) 3 3 0 ((W1.alloc (.cells #[.int .i64 (-1), .int .i64 (-52), .int .i64 (-1), .int .i64 (-52), .int .i64 (-1)] 3)).alloc (.cells #[.int .i64 0, .int .i64 2, .int .i64 4] 3))).mono ?_
 rintro e W2 ⟨rfl, hb⟩
 have RL2 := aM_ (RA1.out.below hb)
 have HB2 := aM_ (ga_ BA1.out hb)
 clear hb RA1 BA1 RL1 HB1
 generalize W1.heap.size = s1 at *
 have hg2 := HB2.out.size
 have RA2 : Az (RLits ((W2.alloc (.cells #[.int .i64 (-1), .int .i64 (-2), .int .i64 (-1)] 3)).alloc (.cells #[.int .i64 2, .int .i64 1, .int .i64 0] 3)) w.heap.size _) := ⟨RL2.out.snoc (aa_ (aa_ (Below.refl _ _) _) _) (⟨1, [(-1), (-2), (-1)], ⟨1, [2, 1, 0]⟩, 0⟩ : db_) W2.heap.size (W2.heap.size + 1) (ua_ (ra_ W2 _)) (mb_ (by simp)) ⟨by omega, by omega⟩ (.inr ⟨Nat.le_refl _, Nat.le_succ _⟩)⟩
 have BA2 : Az (Below w.heap.size w ((W2.alloc (.cells #[.int .i64 (-1), .int .i64 (-2), .int .i64 (-1)] 3)).alloc (.cells #[.int .i64 2, .int .i64 1, .int .i64 0] 3))) := ⟨ga_ HB2.out (aa_ (aa_ (Below.refl _ _) _) _)⟩
 clear hg2
 go_wp2_with fail
 refine (rb_ 1 (some ⟨W2.heap.size, 0, none⟩) 3 3 1 (some ⟨W2.heap.size + 1, 0, none⟩) 3 3 0 ((W2.alloc (.cells #[.int .i64 (-1), .int .i64 (-2), .int .i64 (-1)] 3)).alloc (.cells #[.int .i64 2, .int .i64 1, .int .i64 0] 3))).mono ?_
 rintro e W3 ⟨rfl, hb⟩
 have RL3 := aM_ (RA2.out.below hb)
 have HB3 := aM_ (ga_ BA2.out hb)
 clear hb RA2 BA2 RL2 HB2
 generalize W2.heap.size = s2 at *
 have hg3 := HB3.out.size
 have RA3 : Az (RLits ((W3.alloc (.cells #[.int .i64 (-2), .int .i64 (-1)] 3)).alloc (.cells #[.int .i64 0, .int .i64 1] 3)) w.heap.size _) := ⟨RL3.out.snoc (aa_ (aa_ (Below.refl _ _) _) _) (⟨1, [(-2), (-1)], ⟨2, [0, 1]⟩, 2⟩ : db_) W3.heap.size (W3.heap.size + 1) (ua_ (ra_ W3 _)) (mb_ (by simp)) ⟨by omega, by omega⟩ (.inr ⟨Nat.le_refl _, Nat.le_succ _⟩)⟩
 have BA3 : Az (Below w.heap.size w ((W3.alloc (.cells #[.int .i64 (-2), .int .i64 (-1)] 3)).alloc (.cells #[.int .i64 0, .int .i64 1] 3))) := ⟨ga_ HB3.out (aa_ (aa_ (Below.refl _ _) _) _)⟩
 clear hg3
 go_wp2_with fail
 refine (rb_ 1 (some ⟨W3.heap.size, 0, none⟩) 2 2 2 (some ⟨W3.heap.size + 1, 0, none⟩) 2 2 2 ((W3.alloc (.cells #[.int .i64 (-2), .int .i64 (-1)] 3)).alloc (.cells #[.int .i64 0, .int .i64 1] 3))).mono ?_
 rintro e W4 ⟨rfl, hb⟩
 have RL4 := aM_ (RA3.out.below hb)
 have HB4 := aM_ (ga_ BA3.out hb)
 clear hb RA3 BA3 RL3 HB3
 generalize W3.heap.size = s3 at *
 have hg4 := HB4.out.size
 have RA4 : Az (RLits ((W4.alloc (.cells #[.int .i64 8, .int .i64 (-4), .int .i64 (-5)] 3)).alloc (.cells #[.int .i64 0, .int .i64 1, .int .i64 2] 3)) w.heap.size _) := ⟨RL4.out.snoc (aa_ (aa_ (Below.refl _ _) _) _) (⟨1, [8, (-4), (-5)], ⟨6, [0, 1, 2]⟩, 1⟩ : db_) W4.heap.size (W4.heap.size + 1) (ua_ (ra_ W4 _)) (mb_ (by simp)) ⟨by omega, by omega⟩ (.inr ⟨Nat.le_refl _, Nat.le_succ _⟩)⟩
 have BA4 : Az (Below w.heap.size w ((W4.alloc (.cells #[.int .i64 8, .int .i64 (-4), .int .i64 (-5)] 3)).alloc (.cells #[.int .i64 0, .int .i64 1, .int .i64 2] 3))) := ⟨ga_ HB4.out (aa_ (aa_ (Below.refl _ _) _) _)⟩
 clear hg4
 go_wp2_with fail
 refine (rb_ 1 (some ⟨W4.heap.size, 0, none⟩) 3 3 6 (some ⟨W4.heap.size + 1, 0, none⟩) 3 3 1 ((W4.alloc (.cells #[.int .i64 8, .int .i64 (-4), .int .i64 (-5)] 3)).alloc (.cells #[.int .i64 0, .int .i64 1, .int .i64 2] 3))).mono ?_
 rintro e W5 ⟨rfl, hb⟩
 have RL5 := aM_ (RA4.out.below hb)
 have HB5 := aM_ (ga_ BA4.out hb)
 clear hb RA4 BA4 RL4 HB4
 generalize W4.heap.size = s4 at *
 have hg5 := HB5.out.size
 have RA5 : Az (RLits ((W5.alloc (.cells #[.int .i64 (-3)] 3)).alloc (.cells #[.int .i64 0] 3)) w.heap.size _) := ⟨RL5.out.snoc (aa_ (aa_ (Below.refl _ _) _) _) (⟨1, [(-3)], ⟨7, [0]⟩, 1⟩ : db_) W5.heap.size (W5.heap.size + 1) (ua_ (ra_ W5 _)) (mb_ (by simp)) ⟨by omega, by omega⟩ (.inr ⟨Nat.le_refl _, Nat.le_succ _⟩)⟩
 have BA5 : Az (Below w.heap.size w ((W5.alloc (.cells #[.int .i64 (-3)] 3)).alloc (.cells #[.int .i64 0] 3))) := ⟨ga_ HB5.out (aa_ (aa_ (Below.refl _ _) _) _)⟩
 clear hg5
 go_wp2_with fail
 refine (rb_ 1 (some ⟨W5.heap.size, 0, none⟩) 1 1 7 (some ⟨W5.heap.size + 1, 0, none⟩) 1 1 1 ((W5.alloc (.cells #[.int .i64 (-3)] 3)).alloc (.cells #[.int .i64 0] 3))).mono ?_
 rintro e W6 ⟨rfl, hb⟩
 have RL6 := aM_ (RA5.out.below hb)
 have HB6 := aM_ (ga_ BA5.out hb)
 clear hb RA5 BA5 RL5 HB5
 generalize W5.heap.size = s5 at *
 have hg6 := HB6.out.size
 have RA6 : Az (RLits ((W6.alloc (.cells #[.int .i64 (-1)] 3)).alloc (.cells #[.int .i64 0] 3)) w.heap.size _) := ⟨RL6.out.snoc (aa_ (aa_ (Below.refl _ _) _) _) (⟨8, [(-1)], ⟨0, [0]⟩, 0⟩ : db_) W6.heap.size (W6.heap.size + 1) (ua_ (ra_ W6 _)) (mb_ (by simp)) ⟨by omega, by omega⟩ (.inr ⟨Nat.le_refl _, Nat.le_succ _⟩)⟩
 have BA6 : Az (Below w.heap.size w ((W6.alloc (.cells #[.int .i64 (-1)] 3)).alloc (.cells #[.int .i64 0] 3))) := ⟨ga_ HB6.out (aa_ (aa_ (Below.refl _ _) _) _)⟩
 clear hg6
 go_wp2_with fail
 refine (rb_ 8 (some ⟨W6.heap.size, 0, none⟩) 1 1 0 (some ⟨W6.heap.size + 1, 0, none⟩) 1 1 0 ((W6.alloc (.cells #[.int .i64 (-1)] 3)).alloc (.cells #[.int .i64 0] 3))).mono ?_
 rintro e W7 ⟨rfl, hb⟩
 have RL7 := aM_ (RA6.out.below hb)
 have HB7 := aM_ (ga_ BA6.out hb)
 clear hb RA6 BA6 RL6 HB6
 generalize W6.heap.size = s6 at *
 have hg7 := HB7.out.size
 have RA7 : Az (RLits ((W7.alloc (.cells #[.int .i64 (-10)] 3)).alloc (.cells #[.int .i64 0] 3)) w.heap.size _) := ⟨RL7.out.snoc (aa_ (aa_ (Below.refl _ _) _) _) (⟨8, [(-10)], ⟨0, [0]⟩, 0⟩ : db_) W7.heap.size (W7.heap.size + 1) (ua_ (ra_ W7 _)) (mb_ (by simp)) ⟨by omega, by omega⟩ (.inr ⟨Nat.le_refl _, Nat.le_succ _⟩)⟩
 have BA7 : Az (Below w.heap.size w ((W7.alloc (.cells #[.int .i64 (-10)] 3)).alloc (.cells #[.int .i64 0] 3))) := ⟨ga_ HB7.out (aa_ (aa_ (Below.refl _ _) _) _)⟩
 clear hg7
 go_wp2_with fail
 refine (rb_ 8 (some ⟨W7.heap.size, 0, none⟩) 1 1 0 (some ⟨W7.heap.size + 1, 0, none⟩) 1 1 0 ((W7.alloc (.cells #[.int .i64 (-10)] 3)).alloc (.cells #[.int .i64 0] 3))).mono ?_
 rintro e W8 ⟨rfl, hb⟩
 have RL8 := aM_ (RA7.out.below hb)
 have HB8 := aM_ (ga_ BA7.out hb)
 clear hb RA7 BA7 RL7 HB7
 generalize W7.heap.size = s7 at *
 have h8 : RLits W8 w.heap.size [((⟨1, [(-1), (-51), (-1), (-51), (-1)], ⟨1, (rm_ (o : Int))⟩, 1⟩ : db_), s0, pa), ((⟨1, [(-1), (-52), (-1), (-52), (-1)], ⟨1, [0, 2, 4]⟩, 0⟩ : db_), s1, s1 + 1), ((⟨1, [(-1), (-2), (-1)], ⟨1, [2, 1, 0]⟩, 0⟩ : db_), s2, s2 + 1), ((⟨1, [(-2), (-1)], ⟨2, [0, 1]⟩, 2⟩ : db_), s3, s3 + 1), ((⟨1, [8, (-4), (-5)], ⟨6, [0, 1, 2]⟩, 1⟩ : db_), s4, s4 + 1), ((⟨1, [(-3)], ⟨7, [0]⟩, 1⟩ : db_), s5, s5 + 1), ((⟨8, [(-1)], ⟨0, [0]⟩, 0⟩ : db_), s6, s6 + 1), ((⟨8, [(-10)], ⟨0, [0]⟩, 0⟩ : db_), s7, s7 + 1)] := RL8.out
 have hS := ut_ _ h8 HB8.out.size (by simp [HDL.out]) (by simp)
 simp only [List.flatMap_cons, List.flatMap_nil, encR, List.cons_append, List.nil_append, List.append_nil, HDL.out, List.length_cons, List.length_nil, Nat.zero_add, Nat.reduceAdd, List.map_cons, List.map_nil] at hS
 have HS := aM_ hS
 have HB9 := aM_ (aa_ HB8.out (.cells #[] 3))
 clear hS h8
 go_wp2
 go_ret
 exact ⟨_, rfl, HS.out, aa_ HB8.out _⟩
noncomputable def l5_dates.f (a : Int) : Option (List db_) := some (jh_ (a % 3))
theorem l5_dates.calls (a : Int) (r : List db_) (w : World) (h : l5_dates.f a = some r) : Calls Tryz.prog 27 #[.int .i64 a] w fun e w' => ∃ v0_ : Value, e = .returned (v0_) ∧ Kd.S k56 56 w' w.heap.size (fun _ => True) v0_ r ∧ Below w.heap.size w w' := by
 obtain rfl := Option.some.inj h
 exact gr_ a w
def others15 : List db_ := [
 (⟨2, [(-1), (-55), (-1)], ⟨3, [0, 2]⟩, 0⟩ : db_),
 (⟨2, [(-1), (-55), (-1), (-55), (-1)], ⟨3, [0, 2, 4]⟩, 0⟩ : db_),
 (⟨2, [(-1), (-6)], ⟨4, [0, 1]⟩, 1⟩ : db_),
 (⟨2, [(-1), (-55), (-1), (-6)], ⟨4, [0, 2, 3]⟩, 0⟩ : db_),
 (⟨3, [1, 2], ⟨5, [0, 1]⟩, 0⟩ : db_),
 (⟨4, [(-1)], ⟨8, [0]⟩, 0⟩ : db_),
 (⟨4, [(-1), (-53), (-1)], ⟨9, [0, 2]⟩, 0⟩ : db_),
 (⟨4, [(-1), (-54), (-1)], ⟨10, [0, 2]⟩, 1⟩ : db_),
 (⟨4, [(-52), 4], ⟨11, [1]⟩, 1⟩ : db_),
 (⟨5, [(-7), 4], ⟨12, [0, 1]⟩, 0⟩ : db_),
 (⟨5, [4, (-7)], ⟨12, [1, 0]⟩, 0⟩ : db_),
 (⟨9, [(-1), (-8)], ⟨13, [0, 1]⟩, 0⟩ : db_),
 (⟨6, [9], ⟨0, [0]⟩, 0⟩ : db_),
 (⟨6, [6, 9], ⟨14, [0, 1]⟩, 1⟩ : db_),
 (⟨7, [1, (-9), 1], ⟨15, [0, 2]⟩, 0⟩ : db_)]
def gq_ (i : Int) : db_ := ⟨0, [i], ⟨0, [0]⟩, i % 3⟩
def ae_ (i : Nat) : List db_ := others15 ++ (List.range i).map fun (j : Nat) => gq_ ((j : Int) + 1)
theorem kn_ (i : Nat) : ae_ (i + 1) = ae_ i ++ [gq_ ((i : Int) + 1)] := by
 unfold ae_
 rw [List.range_succ, List.map_append, List.append_assoc]
 rfl
theorem wo_ (i : Nat) : (ae_ i).length = 15 + i := by
 unfold ae_
 rw [List.length_append, List.length_map, List.length_range]
 rfl
def rf_ : List db_ := ae_ 7
theorem xo_ (w : World) : Calls Tryz.prog 26 #[] w fun e w' => ∃ v : Value, e = .returned v ∧ Kd.S k56 56 w' w.heap.size (fun _ => True) v rf_ ∧ Below w.heap.size w w' := by
 obtain ⟨W0, hW0⟩ : ∃ W0, W0 = w := ⟨_, rfl⟩
 have HB0 : Az (Below w.heap.size w W0) := ⟨by rw [hW0]; exact Below.refl _ _⟩
 have RL0 := aM_ (RLits.nil W0 w.heap.size)
 have HW0 := aM_ hW0
 go_enter Tryz.func26, Tryz.ntmps26
 rw [← HW0.out]
 have hb00 : w.heap.size ≤ W0.heap.size := HB0.out.size
 clear hW0 hb00
 have hg0 := HB0.out.size
 have RA0 : Az (RLits ((W0.alloc (.cells #[.int .i64 (-1), .int .i64 (-55), .int .i64 (-1)] 3)).alloc (.cells #[.int .i64 0, .int .i64 2] 3)) w.heap.size _) := ⟨RL0.out.snoc (aa_ (aa_ (Below.refl _ _) _) _) (⟨2, [(-1), (-55), (-1)], ⟨3, [0, 2]⟩, 0⟩ : db_) W0.heap.size (W0.heap.size + 1) (ua_ (ra_ W0 _)) (mb_ (by simp)) ⟨by omega, by omega⟩ (.inr ⟨Nat.le_refl _, Nat.le_succ _⟩)⟩
 have BA0 : Az (Below w.heap.size w ((W0.alloc (.cells #[.int .i64 (-1), .int .i64 (-55), .int .i64 (-1)] 3)).alloc (.cells #[.int .i64 0, .int .i64 2] 3))) := ⟨ga_ HB0.out (aa_ (aa_ (Below.refl _ _) _) _)⟩
 clear hg0
 go_wp2_with fail
 refine (rb_ 2 (some ⟨W0.heap.size, 0, none⟩) 3 3 3 (some ⟨W0.heap.size + 1, 0, none⟩) 2 2 0 ((W0.alloc (.cells #[.int .i64 (-1), .int .i64 (-55), .int .i64 (-1)] 3)).alloc (.cells #[.int .i64 0, .int .i64 2] 3))).mono ?_
 rintro e W1 ⟨rfl, hb⟩
 have RL1 := aM_ (RA0.out.below hb)
 have HB1 := aM_ (ga_ BA0.out hb)
 clear hb RA0 BA0 RL0 HB0
 generalize W0.heap.size = s0 at *
 have hg1 := HB1.out.size
 have RA1 : Az (RLits ((W1.alloc (.cells #[.int .i64 (-1), .int .i64 (-55), .int .i64 (-1), .int .i64 (-55), .int .i64 (-1)] 3)).alloc (.cells #[.int .i64 0, .int .i64 2, .int .i64 4] 3)) w.heap.size _) := ⟨RL1.out.snoc (aa_ (aa_ (Below.refl _ _) _) _) (⟨2, [(-1), (-55), (-1), (-55), (-1)], ⟨3, [0, 2, 4]⟩, 0⟩ : db_) W1.heap.size (W1.heap.size + 1) (ua_ (ra_ W1 _)) (mb_ (by simp)) ⟨by omega, by omega⟩ (.inr ⟨Nat.le_refl _, Nat.le_succ _⟩)⟩
 have BA1 : Az (Below w.heap.size w ((W1.alloc (.cells #[.int .i64 (-1), .int .i64 (-55), .int .i64 (-1), .int .i64 (-55), .int .i64 (-1)] 3)).alloc (.cells #[.int .i64 0, .int .i64 2, .int .i64 4] 3))) := ⟨ga_ HB1.out (aa_ (aa_ (Below.refl _ _) _) _)⟩
 clear hg1
 go_wp2_with fail
 refine (rb_ 2 (some ⟨W1.heap.size, 0, none⟩) 5 5 3 (some ⟨W1.heap.size + 1, 0, none⟩) 3 3 0 ((W1.alloc (.cells #[.int .i64 (-1), .int .i64 (-55), .int .i64 (-1), .int .i64 (-55), .int .i64 (-1)] 3)).alloc (.cells #[.int .i64 0, .int .i64 2, .int .i64 4] 3))).mono ?_
 rintro e W2 ⟨rfl, hb⟩
 have RL2 := aM_ (RA1.out.below hb)
 have HB2 := aM_ (ga_ BA1.out hb)
 clear hb RA1 BA1 RL1 HB1
 generalize W1.heap.size = s1 at *
 have hg2 := HB2.out.size
 have RA2 : Az (RLits ((W2.alloc (.cells #[.int .i64 (-1), .int .i64 (-6)] 3)).alloc (.cells #[.int .i64 0, .int .i64 1] 3)) w.heap.size _) := ⟨RL2.out.snoc (aa_ (aa_ (Below.refl _ _) _) _) (⟨2, [(-1), (-6)], ⟨4, [0, 1]⟩, 1⟩ : db_) W2.heap.size (W2.heap.size + 1) (ua_ (ra_ W2 _)) (mb_ (by simp)) ⟨by omega, by omega⟩ (.inr ⟨Nat.le_refl _, Nat.le_succ _⟩)⟩
 have BA2 : Az (Below w.heap.size w ((W2.alloc (.cells #[.int .i64 (-1), .int .i64 (-6)] 3)).alloc (.cells #[.int .i64 0, .int .i64 1] 3))) := ⟨ga_ HB2.out (aa_ (aa_ (Below.refl _ _) _) _)⟩
 clear hg2
 go_wp2_with fail
 refine (rb_ 2 (some ⟨W2.heap.size, 0, none⟩) 2 2 4 (some ⟨W2.heap.size + 1, 0, none⟩) 2 2 1 ((W2.alloc (.cells #[.int .i64 (-1), .int .i64 (-6)] 3)).alloc (.cells #[.int .i64 0, .int .i64 1] 3))).mono ?_
 rintro e W3 ⟨rfl, hb⟩
 have RL3 := aM_ (RA2.out.below hb)
 have HB3 := aM_ (ga_ BA2.out hb)
 clear hb RA2 BA2 RL2 HB2
 generalize W2.heap.size = s2 at *
 have hg3 := HB3.out.size
 have RA3 : Az (RLits ((W3.alloc (.cells #[.int .i64 (-1), .int .i64 (-55), .int .i64 (-1), .int .i64 (-6)] 3)).alloc (.cells #[.int .i64 0, .int .i64 2, .int .i64 3] 3)) w.heap.size _) := ⟨RL3.out.snoc (aa_ (aa_ (Below.refl _ _) _) _) (⟨2, [(-1), (-55), (-1), (-6)], ⟨4, [0, 2, 3]⟩, 0⟩ : db_) W3.heap.size (W3.heap.size + 1) (ua_ (ra_ W3 _)) (mb_ (by simp)) ⟨by omega, by omega⟩ (.inr ⟨Nat.le_refl _, Nat.le_succ _⟩)⟩
 have BA3 : Az (Below w.heap.size w ((W3.alloc (.cells #[.int .i64 (-1), .int .i64 (-55), .int .i64 (-1), .int .i64 (-6)] 3)).alloc (.cells #[.int .i64 0, .int .i64 2, .int .i64 3] 3))) := ⟨ga_ HB3.out (aa_ (aa_ (Below.refl _ _) _) _)⟩
 clear hg3
 go_wp2_with fail
 refine (rb_ 2 (some ⟨W3.heap.size, 0, none⟩) 4 4 4 (some ⟨W3.heap.size + 1, 0, none⟩) 3 3 0 ((W3.alloc (.cells #[.int .i64 (-1), .int .i64 (-55), .int .i64 (-1), .int .i64 (-6)] 3)).alloc (.cells #[.int .i64 0, .int .i64 2, .int .i64 3] 3))).mono ?_
 rintro e W4 ⟨rfl, hb⟩
 have RL4 := aM_ (RA3.out.below hb)
 have HB4 := aM_ (ga_ BA3.out hb)
 clear hb RA3 BA3 RL3 HB3
 generalize W3.heap.size = s3 at *
 have hg4 := HB4.out.size
 have RA4 : Az (RLits ((W4.alloc (.cells #[.int .i64 1, .int .i64 2] 3)).alloc (.cells #[.int .i64 0, .int .i64 1] 3)) w.heap.size _) := ⟨RL4.out.snoc (aa_ (aa_ (Below.refl _ _) _) _) (⟨3, [1, 2], ⟨5, [0, 1]⟩, 0⟩ : db_) W4.heap.size (W4.heap.size + 1) (ua_ (ra_ W4 _)) (mb_ (by simp)) ⟨by omega, by omega⟩ (.inr ⟨Nat.le_refl _, Nat.le_succ _⟩)⟩
 have BA4 : Az (Below w.heap.size w ((W4.alloc (.cells #[.int .i64 1, .int .i64 2] 3)).alloc (.cells #[.int .i64 0, .int .i64 1] 3))) := ⟨ga_ HB4.out (aa_ (aa_ (Below.refl _ _) _) _)⟩
 clear hg4
 go_wp2_with fail
 refine (rb_ 3 (some ⟨W4.heap.size, 0, none⟩) 2 2 5 (some ⟨W4.heap.size + 1, 0, none⟩) 2 2 0 ((W4.alloc (.cells #[.int .i64 1, .int .i64 2] 3)).alloc (.cells #[.int .i64 0, .int .i64 1] 3))).mono ?_
 rintro e W5 ⟨rfl, hb⟩
 have RL5 := aM_ (RA4.out.below hb)
 have HB5 := aM_ (ga_ BA4.out hb)
 clear hb RA4 BA4 RL4 HB4
 generalize W4.heap.size = s4 at *
 have hg5 := HB5.out.size
 have RA5 : Az (RLits ((W5.alloc (.cells #[.int .i64 (-1)] 3)).alloc (.cells #[.int .i64 0] 3)) w.heap.size _) := ⟨RL5.out.snoc (aa_ (aa_ (Below.refl _ _) _) _) (⟨4, [(-1)], ⟨8, [0]⟩, 0⟩ : db_) W5.heap.size (W5.heap.size + 1) (ua_ (ra_ W5 _)) (mb_ (by simp)) ⟨by omega, by omega⟩ (.inr ⟨Nat.le_refl _, Nat.le_succ _⟩)⟩
 have BA5 : Az (Below w.heap.size w ((W5.alloc (.cells #[.int .i64 (-1)] 3)).alloc (.cells #[.int .i64 0] 3))) := ⟨ga_ HB5.out (aa_ (aa_ (Below.refl _ _) _) _)⟩
 clear hg5
 go_wp2_with fail
 refine (rb_ 4 (some ⟨W5.heap.size, 0, none⟩) 1 1 8 (some ⟨W5.heap.size + 1, 0, none⟩) 1 1 0 ((W5.alloc (.cells #[.int .i64 (-1)] 3)).alloc (.cells #[.int .i64 0] 3))).mono ?_
 rintro e W6 ⟨rfl, hb⟩
 have RL6 := aM_ (RA5.out.below hb)
 have HB6 := aM_ (ga_ BA5.out hb)
 clear hb RA5 BA5 RL5 HB5
 generalize W5.heap.size = s5 at *
 have hg6 := HB6.out.size
 have RA6 : Az (RLits ((W6.alloc (.cells #[.int .i64 (-1), .int .i64 (-53), .int .i64 (-1)] 3)).alloc (.cells #[.int .i64 0, .int .i64 2] 3)) w.heap.size _) := ⟨RL6.out.snoc (aa_ (aa_ (Below.refl _ _) _) _) (⟨4, [(-1), (-53), (-1)], ⟨9, [0, 2]⟩, 0⟩ : db_) W6.heap.size (W6.heap.size + 1) (ua_ (ra_ W6 _)) (mb_ (by simp)) ⟨by omega, by omega⟩ (.inr ⟨Nat.le_refl _, Nat.le_succ _⟩)⟩
 have BA6 : Az (Below w.heap.size w ((W6.alloc (.cells #[.int .i64 (-1), .int .i64 (-53), .int .i64 (-1)] 3)).alloc (.cells #[.int .i64 0, .int .i64 2] 3))) := ⟨ga_ HB6.out (aa_ (aa_ (Below.refl _ _) _) _)⟩
 clear hg6
 go_wp2_with fail
 refine (rb_ 4 (some ⟨W6.heap.size, 0, none⟩) 3 3 9 (some ⟨W6.heap.size + 1, 0, none⟩) 2 2 0 ((W6.alloc (.cells #[.int .i64 (-1), .int .i64 (-53), .int .i64 (-1)] 3)).alloc (.cells #[.int .i64 0, .int .i64 2] 3))).mono ?_
 rintro e W7 ⟨rfl, hb⟩
 have RL7 := aM_ (RA6.out.below hb)
 have HB7 := aM_ (ga_ BA6.out hb)
 clear hb RA6 BA6 RL6 HB6
 generalize W6.heap.size = s6 at *
 have hg7 := HB7.out.size
 have RA7 : Az (RLits ((W7.alloc (.cells #[.int .i64 (-1), .int .i64 (-54), .int .i64 (-1)] 3)).alloc (.cells #[.int .i64 0, .int .i64 2] 3)) w.heap.size _) := ⟨RL7.out.snoc (aa_ (aa_ (Below.refl _ _) _) _) (⟨4, [(-1), (-54), (-1)], ⟨10, [0, 2]⟩, 1⟩ : db_) W7.heap.size (W7.heap.size + 1) (ua_ (ra_ W7 _)) (mb_ (by simp)) ⟨by omega, by omega⟩ (.inr ⟨Nat.le_refl _, Nat.le_succ _⟩)⟩
 have BA7 : Az (Below w.heap.size w ((W7.alloc (.cells #[.int .i64 (-1), .int .i64 (-54), .int .i64 (-1)] 3)).alloc (.cells #[.int .i64 0, .int .i64 2] 3))) := ⟨ga_ HB7.out (aa_ (aa_ (Below.refl _ _) _) _)⟩
 clear hg7
 go_wp2_with fail
 refine (rb_ 4 (some ⟨W7.heap.size, 0, none⟩) 3 3 10 (some ⟨W7.heap.size + 1, 0, none⟩) 2 2 1 ((W7.alloc (.cells #[.int .i64 (-1), .int .i64 (-54), .int .i64 (-1)] 3)).alloc (.cells #[.int .i64 0, .int .i64 2] 3))).mono ?_
 rintro e W8 ⟨rfl, hb⟩
 have RL8 := aM_ (RA7.out.below hb)
 have HB8 := aM_ (ga_ BA7.out hb)
 clear hb RA7 BA7 RL7 HB7
 generalize W7.heap.size = s7 at *
 have hg8 := HB8.out.size
 have RA8 : Az (RLits ((W8.alloc (.cells #[.int .i64 (-52), .int .i64 4] 3)).alloc (.cells #[.int .i64 1] 3)) w.heap.size _) := ⟨RL8.out.snoc (aa_ (aa_ (Below.refl _ _) _) _) (⟨4, [(-52), 4], ⟨11, [1]⟩, 1⟩ : db_) W8.heap.size (W8.heap.size + 1) (ua_ (ra_ W8 _)) (mb_ (by simp)) ⟨by omega, by omega⟩ (.inr ⟨Nat.le_refl _, Nat.le_succ _⟩)⟩
 have BA8 : Az (Below w.heap.size w ((W8.alloc (.cells #[.int .i64 (-52), .int .i64 4] 3)).alloc (.cells #[.int .i64 1] 3))) := ⟨ga_ HB8.out (aa_ (aa_ (Below.refl _ _) _) _)⟩
 clear hg8
 go_wp2_with fail
 refine (rb_ 4 (some ⟨W8.heap.size, 0, none⟩) 2 2 11 (some ⟨W8.heap.size + 1, 0, none⟩) 1 1 1 ((W8.alloc (.cells #[.int .i64 (-52), .int .i64 4] 3)).alloc (.cells #[.int .i64 1] 3))).mono ?_
 rintro e W9 ⟨rfl, hb⟩
 have RL9 := aM_ (RA8.out.below hb)
 have HB9 := aM_ (ga_ BA8.out hb)
 clear hb RA8 BA8 RL8 HB8
 generalize W8.heap.size = s8 at *
 have hg9 := HB9.out.size
 have RA9 : Az (RLits ((W9.alloc (.cells #[.int .i64 (-7), .int .i64 4] 3)).alloc (.cells #[.int .i64 0, .int .i64 1] 3)) w.heap.size _) := ⟨RL9.out.snoc (aa_ (aa_ (Below.refl _ _) _) _) (⟨5, [(-7), 4], ⟨12, [0, 1]⟩, 0⟩ : db_) W9.heap.size (W9.heap.size + 1) (ua_ (ra_ W9 _)) (mb_ (by simp)) ⟨by omega, by omega⟩ (.inr ⟨Nat.le_refl _, Nat.le_succ _⟩)⟩
 have BA9 : Az (Below w.heap.size w ((W9.alloc (.cells #[.int .i64 (-7), .int .i64 4] 3)).alloc (.cells #[.int .i64 0, .int .i64 1] 3))) := ⟨ga_ HB9.out (aa_ (aa_ (Below.refl _ _) _) _)⟩
 clear hg9
 go_wp2_with fail
 refine (rb_ 5 (some ⟨W9.heap.size, 0, none⟩) 2 2 12 (some ⟨W9.heap.size + 1, 0, none⟩) 2 2 0 ((W9.alloc (.cells #[.int .i64 (-7), .int .i64 4] 3)).alloc (.cells #[.int .i64 0, .int .i64 1] 3))).mono ?_
 rintro e W10 ⟨rfl, hb⟩
 have RL10 := aM_ (RA9.out.below hb)
 have HB10 := aM_ (ga_ BA9.out hb)
 clear hb RA9 BA9 RL9 HB9
 generalize W9.heap.size = s9 at *
 have hg10 := HB10.out.size
 have RA10 : Az (RLits ((W10.alloc (.cells #[.int .i64 4, .int .i64 (-7)] 3)).alloc (.cells #[.int .i64 1, .int .i64 0] 3)) w.heap.size _) := ⟨RL10.out.snoc (aa_ (aa_ (Below.refl _ _) _) _) (⟨5, [4, (-7)], ⟨12, [1, 0]⟩, 0⟩ : db_) W10.heap.size (W10.heap.size + 1) (ua_ (ra_ W10 _)) (mb_ (by simp)) ⟨by omega, by omega⟩ (.inr ⟨Nat.le_refl _, Nat.le_succ _⟩)⟩
 have BA10 : Az (Below w.heap.size w ((W10.alloc (.cells #[.int .i64 4, .int .i64 (-7)] 3)).alloc (.cells #[.int .i64 1, .int .i64 0] 3))) := ⟨ga_ HB10.out (aa_ (aa_ (Below.refl _ _) _) _)⟩
 clear hg10
 go_wp2_with fail
 refine (rb_ 5 (some ⟨W10.heap.size, 0, none⟩) 2 2 12 (some ⟨W10.heap.size + 1, 0, none⟩) 2 2 0 ((W10.alloc (.cells #[.int .i64 4, .int .i64 (-7)] 3)).alloc (.cells #[.int .i64 1, .int .i64 0] 3))).mono ?_
 rintro e W11 ⟨rfl, hb⟩
 have RL11 := aM_ (RA10.out.below hb)
 have HB11 := aM_ (ga_ BA10.out hb)
 clear hb RA10 BA10 RL10 HB10
 generalize W10.heap.size = s10 at *
 have hg11 := HB11.out.size
 have RA11 : Az (RLits ((W11.alloc (.cells #[.int .i64 (-1), .int .i64 (-8)] 3)).alloc (.cells #[.int .i64 0, .int .i64 1] 3)) w.heap.size _) := ⟨RL11.out.snoc (aa_ (aa_ (Below.refl _ _) _) _) (⟨9, [(-1), (-8)], ⟨13, [0, 1]⟩, 0⟩ : db_) W11.heap.size (W11.heap.size + 1) (ua_ (ra_ W11 _)) (mb_ (by simp)) ⟨by omega, by omega⟩ (.inr ⟨Nat.le_refl _, Nat.le_succ _⟩)⟩
 have BA11 : Az (Below w.heap.size w ((W11.alloc (.cells #[.int .i64 (-1), .int .i64 (-8)] 3)).alloc (.cells #[.int .i64 0, .int .i64 1] 3))) := ⟨ga_ HB11.out (aa_ (aa_ (Below.refl _ _) _) _)⟩
 clear hg11
 go_wp2_with fail
 refine (rb_ 9 (some ⟨W11.heap.size, 0, none⟩) 2 2 13 (some ⟨W11.heap.size + 1, 0, none⟩) 2 2 0 ((W11.alloc (.cells #[.int .i64 (-1), .int .i64 (-8)] 3)).alloc (.cells #[.int .i64 0, .int .i64 1] 3))).mono ?_
 rintro e W12 ⟨rfl, hb⟩
 have RL12 := aM_ (RA11.out.below hb)
 have HB12 := aM_ (ga_ BA11.out hb)
 clear hb RA11 BA11 RL11 HB11
 generalize W11.heap.size = s11 at *
 have hg12 := HB12.out.size
 have RA12 : Az (RLits ((W12.alloc (.cells #[.int .i64 9] 3)).alloc (.cells #[.int .i64 0] 3)) w.heap.size _) := ⟨RL12.out.snoc (aa_ (aa_ (Below.refl _ _) _) _) (⟨6, [9], ⟨0, [0]⟩, 0⟩ : db_) W12.heap.size (W12.heap.size + 1) (ua_ (ra_ W12 _)) (mb_ (by simp)) ⟨by omega, by omega⟩ (.inr ⟨Nat.le_refl _, Nat.le_succ _⟩)⟩
 have BA12 : Az (Below w.heap.size w ((W12.alloc (.cells #[.int .i64 9] 3)).alloc (.cells #[.int .i64 0] 3))) := ⟨ga_ HB12.out (aa_ (aa_ (Below.refl _ _) _) _)⟩
 clear hg12
 go_wp2_with fail
 refine (rb_ 6 (some ⟨W12.heap.size, 0, none⟩) 1 1 0 (some ⟨W12.heap.size + 1, 0, none⟩) 1 1 0 ((W12.alloc (.cells #[.int .i64 9] 3)).alloc (.cells #[.int .i64 0] 3))).mono ?_
 rintro e W13 ⟨rfl, hb⟩
 have RL13 := aM_ (RA12.out.below hb)
 have HB13 := aM_ (ga_ BA12.out hb)
 clear hb RA12 BA12 RL12 HB12
 generalize W12.heap.size = s12 at *
 have hg13 := HB13.out.size
 have RA13 : Az (RLits ((W13.alloc (.cells #[.int .i64 6, .int .i64 9] 3)).alloc (.cells #[.int .i64 0, .int .i64 1] 3)) w.heap.size _) := ⟨RL13.out.snoc (aa_ (aa_ (Below.refl _ _) _) _) (⟨6, [6, 9], ⟨14, [0, 1]⟩, 1⟩ : db_) W13.heap.size (W13.heap.size + 1) (ua_ (ra_ W13 _)) (mb_ (by simp)) ⟨by omega, by omega⟩ (.inr ⟨Nat.le_refl _, Nat.le_succ _⟩)⟩
 have BA13 : Az (Below w.heap.size w ((W13.alloc (.cells #[.int .i64 6, .int .i64 9] 3)).alloc (.cells #[.int .i64 0, .int .i64 1] 3))) := ⟨ga_ HB13.out (aa_ (aa_ (Below.refl _ _) _) _)⟩
 clear hg13
 go_wp2_with fail
 refine (rb_ 6 (some ⟨W13.heap.size, 0, none⟩) 2 2 14 (some ⟨W13.heap.size + 1, 0, none⟩) 2 2 1 ((W13.alloc (.cells #[.int .i64 6, .int .i64 9] 3)).alloc (.cells #[.int .i64 0, .int .i64 1] 3))).mono ?_
 rintro e W14 ⟨rfl, hb⟩
 have RL14 := aM_ (RA13.out.below hb)
 have HB14 := aM_ (ga_ BA13.out hb)
 clear hb RA13 BA13 RL13 HB13
 generalize W13.heap.size = s13 at *
 have hg14 := HB14.out.size
 have RA14 : Az (RLits ((W14.alloc (.cells #[.int .i64 1, .int .i64 (-9), .int .i64 1] 3)).alloc (.cells #[.int .i64 0, .int .i64 2] 3)) w.heap.size _) := ⟨RL14.out.snoc (aa_ (aa_ (Below.refl _ _) _) _) (⟨7, [1, (-9), 1], ⟨15, [0, 2]⟩, 0⟩ : db_) W14.heap.size (W14.heap.size + 1) (ua_ (ra_ W14 _)) (mb_ (by simp)) ⟨by omega, by omega⟩ (.inr ⟨Nat.le_refl _, Nat.le_succ _⟩)⟩
 have BA14 : Az (Below w.heap.size w ((W14.alloc (.cells #[.int .i64 1, .int .i64 (-9), .int .i64 1] 3)).alloc (.cells #[.int .i64 0, .int .i64 2] 3))) := ⟨ga_ HB14.out (aa_ (aa_ (Below.refl _ _) _) _)⟩
 clear hg14
 go_wp2_with fail
 refine (rb_ 7 (some ⟨W14.heap.size, 0, none⟩) 3 3 15 (some ⟨W14.heap.size + 1, 0, none⟩) 2 2 0 ((W14.alloc (.cells #[.int .i64 1, .int .i64 (-9), .int .i64 1] 3)).alloc (.cells #[.int .i64 0, .int .i64 2] 3))).mono ?_
 rintro e W15 ⟨rfl, hb⟩
 have RL15 := aM_ (RA14.out.below hb)
 have HB15 := aM_ (ga_ BA14.out hb)
 clear hb RA14 BA14 RL14 HB14
 generalize W14.heap.size = s14 at *
 have h15 : RLits W15 w.heap.size [((⟨2, [(-1), (-55), (-1)], ⟨3, [0, 2]⟩, 0⟩ : db_), s0, s0 + 1), ((⟨2, [(-1), (-55), (-1), (-55), (-1)], ⟨3, [0, 2, 4]⟩, 0⟩ : db_), s1, s1 + 1), ((⟨2, [(-1), (-6)], ⟨4, [0, 1]⟩, 1⟩ : db_), s2, s2 + 1), ((⟨2, [(-1), (-55), (-1), (-6)], ⟨4, [0, 2, 3]⟩, 0⟩ : db_), s3, s3 + 1), ((⟨3, [1, 2], ⟨5, [0, 1]⟩, 0⟩ : db_), s4, s4 + 1), ((⟨4, [(-1)], ⟨8, [0]⟩, 0⟩ : db_), s5, s5 + 1), ((⟨4, [(-1), (-53), (-1)], ⟨9, [0, 2]⟩, 0⟩ : db_), s6, s6 + 1), ((⟨4, [(-1), (-54), (-1)], ⟨10, [0, 2]⟩, 1⟩ : db_), s7, s7 + 1), ((⟨4, [(-52), 4], ⟨11, [1]⟩, 1⟩ : db_), s8, s8 + 1), ((⟨5, [(-7), 4], ⟨12, [0, 1]⟩, 0⟩ : db_), s9, s9 + 1), ((⟨5, [4, (-7)], ⟨12, [1, 0]⟩, 0⟩ : db_), s10, s10 + 1), ((⟨9, [(-1), (-8)], ⟨13, [0, 1]⟩, 0⟩ : db_), s11, s11 + 1), ((⟨6, [9], ⟨0, [0]⟩, 0⟩ : db_), s12, s12 + 1), ((⟨6, [6, 9], ⟨14, [0, 1]⟩, 1⟩ : db_), s13, s13 + 1), ((⟨7, [1, (-9), 1], ⟨15, [0, 2]⟩, 0⟩ : db_), s14, s14 + 1)] := RL15.out
 have hS := ut_ _ h15 HB15.out.size (by simp) (by simp)
 simp only [List.flatMap_cons, List.flatMap_nil, encR, List.cons_append, List.nil_append, List.append_nil, List.length_cons, List.length_nil, Nat.zero_add, Nat.reduceAdd, List.map_cons, List.map_nil] at hS
 have HS := aM_ hS
 clear hS h15
 have HSU : Az (Kd.S k56 56 _ w.heap.size (fun _ => True) _ (ae_ 0)) := ⟨HS.out⟩
 have HBU : Az (∀ cs : Array Value, Below w.heap.size w (W15.alloc (.cells cs 56))) := ⟨fun cs => aa_ HB15.out _⟩
 go_wp2
 go_loopg [1, 2] 7 (fun gg s1 s2 wr => ∃ i : Nat, i ≤ 7 ∧ 7 - i ≤ gg ∧ s2 = .int .i64 ((i : Int) + 1) ∧ Az (Kd.S k56 56 wr w.heap.size (fun _ => True) s1 (ae_ i)) ∧ Az (Below w.heap.size w wr))
 case atStart => exact ⟨0, by omega, by omega, rfl, HSU, ⟨HBU.out _⟩⟩
 clear HSU HBU HS RL15 HB15
 obtain ⟨i, hi, hgg, rfl, HS, HB⟩ := hrel
 obtain ⟨Ao, co, rfl⟩ := Kd.S_slice HS.out
 by_cases hil : i < 7
 ·have hilz : (i : Int) + 1 < 8 := by omega
  have hbs := HB.out.size; obtain ⟨s, hs⟩ : ∃ s, wr.heap.size = s := ⟨_, rfl⟩; have HSS := aM_ hs; have hl1 : ((wr.alloc (.cells #[.int .i64 ((i : Int) + 1)] 3)).alloc (.cells #[.int .i64 0] 3)).heap[s]? = some (.cells ([(i : Int) + 1].map (Value.int .i64)).toArray 3 (0, 0)) := ua_ (mb_ hs); have hl2 : ((wr.alloc (.cells #[.int .i64 ((i : Int) + 1)] 3)).alloc (.cells #[.int .i64 0] 3)).heap[s + 1]? = some (.cells ([0].map (Value.int .i64)).toArray 3 (0, 0)) := mb_ (by simp [hs]); have HL1 := aM_ hl1; have HL2 := aM_ hl2; have HB1 := aM_ (aa_ (aa_ (Below.refl wr.heap.size wr) (.cells #[.int .i64 ((i : Int) + 1)] 3)) (.cells #[.int .i64 0] 3)); have hsz : ((wr.alloc (.cells #[.int .i64 ((i : Int) + 1)] 3)).alloc (.cells #[.int .i64 0] 3)).heap.size = s + 2 := by simp [hs]
  clear hl1 hl2
  go_wp2_with fail
  refine (rb_ 0 (some ⟨s, 0, none⟩) 1 1 0 (some ⟨s + 1, 0, none⟩) 1 1 (((i : Int) + 1) % 3) _).mono ?_; rintro e W2 ⟨rfl, hb⟩; have hbw := ga_ HB1.out hb; have HS2 : Az (Kd.S k56 56 W2 w.heap.size (fun k => True ∧ ¬ s ≤ k) (.slice Ao (ae_ i).length co) (ae_ i)) := ⟨Kd.S_below (Kd.S_mono (Kd.S_bound HS.out) (fun k hk => ⟨trivial, by have := hk.2.2.1; omega⟩)) hbw⟩
  have HP2 : Az (k56.M W2 w.heap.size (fun k => s ≤ k) (gq_ ((i : Int) + 1)) [.int .i64 0, .slice (some ⟨s, 0, none⟩) 1 1, .int .i64 0, .slice (some ⟨s + 1, 0, none⟩) 1 1, .int .i64 (((i : Int) + 1) % 3)]) :=
   ⟨gp_ W2 w.heap.size _ (gq_ ((i : Int) + 1)) (lit_R (xs := [(i : Int) + 1]) (oa_ HL1.out hb) (by omega) (by simp) (Nat.le_refl _)) (lit_R (xs := [0]) (oa_ HL2.out hb) (by omega) (by decide) (Nat.le_succ _))⟩
  have HB2 := aM_ (ga_ HB.out hbw); have hown : ∀ k, s ≤ k → True ∧ some k ≠ (Value.slice Ao (ae_ i).length co).ownBlock := fun k hk => ⟨trivial, fun e => by have := Kd.S_lt HS.out k e.symm; omega⟩
  have HOWN := aM_ hown; have hlen := wo_ i; have HSN := aM_ (kn_ i); have HLL := aM_ hlen; generalize ae_ i = ou at *; clear hb hbw HB1 HL1 HL2 hown hsz HB HS hlen; have hlen : ou.length ≤ 30 := by have := HLL.out; omega
  go_wp2_with (at_builtin; go_loud (refine Kd.S_append k56 (w0 := w) w.heap.size rfl (.tmp 53) (.tmp 60) 41 56 (.agg #[.int .i64 0, .slice none 0 0, .int .i64 0, .slice none 0 0, .int .i64 0]) 72 rfl Tryz.underlying41 km_ rfl (by show 0 < 5; decide) (by decide) (.slice Ao ou.length co) ou (gq_ ((i : Int) + 1)) [.int .i64 0, .slice (some ⟨s, 0, none⟩) 1 1, .int .i64 0, .slice (some ⟨s + 1, 0, none⟩) 1 1, .int .i64 (((i : Int) + 1) % 3)] (fun _ => True) (fun k => s ≤ k) rfl rfl HP2.out HOWN.out (fun _ _ => trivial) HS2.out HB2.out HB2.out.size (by omega) ?_); intro v1 w5 ho hb5 hg hat; have HO5 := aM_ ho; have HB5 := aM_ hb5; clear ho hb5 hg hat)
  go_roundg (7 - (i + 1))
  case measure => omega
  case rel => exact ⟨i + 1, by omega, by omega, by go_num, ⟨by rw [HSN.out]; exact HO5.out⟩, HB5⟩
 have hilz : decide ((i : Int) + 1 < 8) = false := by simp; omega
 have he : rf_ = ae_ i := by rw [show i = 7 by omega]; rfl
 have HE := aM_ he
 clear he
 go_wp2
 go_ret
 rw [HW0.out]
 exact ⟨_, rfl, by rw [HE.out]; exact HS.out, HB.out⟩
noncomputable def l5_others.f : Option (List db_) := some rf_
theorem l5_others.calls (r : List db_) (w : World) (h : l5_others.f = some r) : Calls Tryz.prog 26 #[] w fun e w' => ∃ v0_ : Value, e = .returned (v0_) ∧ Kd.S k56 56 w' w.heap.size (fun _ => True) v0_ r ∧ Below w.heap.size w w' := by
 obtain rfl := Option.some.inj h
 exact xo_ w
def num5 (f w : Int) : S48 := ⟨1, ⟨#[]⟩, f, w, 0⟩
def txt5 (s : BA) : S48 := ⟨0, s, 0, 0, 0⟩
def wrd5 (f c : Int) : S48 := ⟨2, ⟨#[]⟩, f, 0, c⟩
def dayP : List S48 := [num5 0 4, txt5 ⟨#[45]⟩, num5 1 2, txt5 ⟨#[45]⟩, num5 2 2]
def kh_ : List S48 := [num5 0 2, txt5 ⟨#[58]⟩, num5 1 2, txt5 ⟨#[58]⟩, num5 2 2]
def bi_ : List S48 := [txt5 ⟨#[32]⟩, num5 3 2, txt5 ⟨#[58]⟩, num5 4 2, txt5 ⟨#[58]⟩, num5 5 2]
def ph_ : List S48 := [txt5 ⟨#[32, 116, 111, 32]⟩, num5 3 4, txt5 ⟨#[45]⟩, num5 4 2, txt5 ⟨#[45]⟩, num5 5 2]
def lk_ : List S48 := [num5 1 0, txt5 ⟨#[46]⟩, num5 2 0, txt5 ⟨#[32]⟩, wrd5 0 6]
def fo_ : List S48 := [num5 0 0, txt5 ⟨#[46]⟩, num5 1 1]
def durP : List S48 := [num5 0 0, txt5 ⟨#[32, 115]⟩]
def im_ : List S48 := [num5 2 0, txt5 ⟨#[32]⟩, wrd5 1 1, txt5 ⟨#[32]⟩, num5 0 4]
def stylesP : List S52 := [⟨4, dayP⟩, ⟨5, kh_⟩, ⟨6, dayP ++ bi_⟩, ⟨7, fo_⟩, ⟨8, lk_⟩, ⟨9, durP⟩, ⟨10, dayP ++ ph_⟩, ⟨4, im_⟩]
def xd_ (x : S48) : List Value := [.int .i64 x.f0, .string x.f1, .int .i64 x.f2, .int .i64 x.f3, .int .i64 x.f4]
theorem part_any {W W' : World} {b' : Nat} {ok' : Nat → Prop} {x : S48} {cs : List Value} (h : k48.K W x cs) : k48.M W' b' ok' x cs := (yq_ h) ▸ hp_ W' b' ok' x
theorem zr_ (W : World) (b : Nat) (ok : Nat → Prop) (xs : List S48) : Reps (k48.M W b ok) k48.sz xs (xs.flatMap xd_) :=
 ⟨eg_ xd_ 5 (fun _ => rfl) xs, fun j x hx => by
  show k48.M W b ok x (((xs.flatMap xd_).drop (j * 5)).take 5); rw [rl_ xd_ 5 (fun _ => rfl) xs j x hx]
  exact hp_ W b ok x⟩
theorem uh_ {W : World} {base : Nat} (xs : List S48) (hb : base ≤ W.heap.size) (hn : xs.length ≤ 1000) : Kd.R k48 48 (W.alloc (.cells (xs.flatMap xd_).toArray 48)) base (fun k => W.heap.size ≤ k) (.slice (some ⟨W.heap.size, 0, none⟩) xs.length xs.length) xs := by
 refine ⟨fun k hk => ?_, xs.flatMap xd_, ?_, zr_ _ _ _ xs⟩
 ·have h : W.heap.size = k := by simpa [Value.ownBlock] using hk
  omega
 have h2 := World.ownsRow_lit (base := base) (e := 48) (size := 5) W (xs.flatMap xd_).toArray xs.length hb (by simp [maxLen]; omega) (by simpa using eg_ xd_ 5 (fun _ => rfl) xs)
 show World.ownsRow _ _ _ 5 _ _ _
 simpa using h2
structure StW (w W : World) (Rs : List (List S48 × Value × Nat × Nat)) : Prop where
 below : Below w.heap.size w W
 rows : ∀ r ∈ Rs, Kd.R k48 48 W w.heap.size (fun k => r.2.2.1 ≤ k ∧ k < r.2.2.2) r.2.1 r.1
 up : Rs.Pairwise fun x y => x.2.2.2 ≤ y.2.2.1
 top : ∀ r ∈ Rs, r.2.2.2 ≤ W.heap.size
theorem StW.base {w W : World} {Rs : List (List S48 × Value × Nat × Nat)} (h : StW w W Rs) : w.heap.size ≤ W.heap.size := h.below.size
theorem StW.nil (w : World) : StW w w [] := ⟨Below.refl _ _, by simp, List.Pairwise.nil, by simp⟩
theorem StW.step {w W W1 : World} {Rs : List (List S48 × Value × Nat × Nat)} (h : StW w W Rs) (hb : Below W.heap.size W W1) : StW w W1 Rs :=
 ⟨ga_ h.below hb, fun r hr => Kd.R_below (h.rows r hr) hb, h.up, fun r hr => Nat.le_trans (h.top r hr) hb.size⟩
theorem StW.snoc {w W : World} {Rs : List (List S48 × Value × Nat × Nat)} (h : StW w W Rs) {xs : List S48} {v : Value} {lo : Nat} (ht : ∀ r ∈ Rs, r.2.2.2 ≤ lo) (hv : Kd.R k48 48 W w.heap.size (fun k => lo ≤ k) v xs) : StW w W (Rs ++ [(xs, v, lo, W.heap.size)]) := by
 refine ⟨h.below, fun r hr => ?_, List.pairwise_append.2 ⟨h.up, List.pairwise_singleton _ _, fun r hr q hq => ?_⟩, fun r hr => ?_⟩
 ·rcases List.mem_append.1 hr with hr | hr
  ·exact h.rows r hr
  rw [List.mem_singleton.1 hr]; exact Kd.R_mono (Kd.R_bound hv) (fun k hk => ⟨hk.1, hk.2.2.1⟩)
 ·rw [List.mem_singleton.1 hq]
  exact ht r hr
 rcases List.mem_append.1 hr with hr | hr
 ·exact h.top r hr
 rw [List.mem_singleton.1 hr]
 exact Nat.le_refl _
theorem StW.lit {w W : World} {Rs : List (List S48 × Value × Nat × Nat)} (h : StW w W Rs) (xs : List S48) (hn : xs.length ≤ 1000) :
  StW w (W.alloc (.cells (xs.flatMap xd_).toArray 48)) (Rs ++ [(xs, .slice (some ⟨W.heap.size, 0, none⟩) xs.length xs.length, W.heap.size, (W.alloc (.cells (xs.flatMap xd_).toArray 48)).heap.size)]) :=
 (h.step (aa_ (Below.refl _ _) _)).snoc h.top (uh_ xs h.base hn)
section
variable {ops : Array Oper} {rest : List Oper} {o : Oper} {a : Act} {Q : Exit → Act → World → Prop}
theorem pj_ {w W : World} (lo : Nat) (Rs : List (List S48 × Value × Nat × Nat)) (ys : List S48) (A : Option Addr) (m c : Nat) {okr : Nat → Prop} (hgd : o.guard = none) (s x : Operand) (ho : o.op = .call { callee := .builtin .append, args := #[s, x], argTypes := #[50, 50] })
  {v : Value} {xs : List S48} (hs : a.eval s = v) (hx : a.eval x = .slice A m c) (HS : StW w W Rs) (HT : ∀ r ∈ Rs, r.2.2.2 ≤ lo) (hb0 : w.heap.size ≤ lo) (hlo : lo ≤ W.heap.size) (HO : Kd.R k48 48 W w.heap.size (fun k => lo ≤ k) v xs)
  (HR : Kd.R k48 48 W w.heap.size okr (.slice A m c) ys) (hl : xs.length + ys.length ≤ 1000)
  (h : ∀ v1 w1, Kd.R k48 48 w1 w.heap.size (fun k => lo ≤ k) v1 (xs ++ ys) → StW w w1 Rs → lo ≤ w1.heap.size → wpList Tryz.prog ops Q rest (a.put o.dst v1) w1) : wpList Tryz.prog ops Q (o :: rest) a W := by
 obtain ⟨A1, c1, e1, hc, hrr⟩ := Kd.R_reads HR
 injection e1 with e1 e2 e3
 subst e1
 subst e2
 subst e3
 refine Kd.R_append_rows k48 (w0 := w) w.heap.size hgd s x 50 48 (.agg #[.int .i64 0, .string ⟨#[]⟩, .int .i64 0, .int .i64 0, .int .i64 0]) 48 ho Tryz.underlying50 (by kernel_rfl) rfl (by show 0 < 5; decide) (by decide) v xs ys A ys.length c (fun k => lo ≤ k) (fun _ => False) hs hx HO hrr (fun x cs h => part_any h) (fun _ h => h.elim) (fun k hk => Nat.le_trans hlo hk) HS.below HS.base (by omega) ?_
 intro v1 w1 ho1 hb1 hg hat
 refine h v1 w1 ho1 ⟨hb1, fun r hr => Kd.R_grown (HS.rows r hr) hg (fun k hk he => ?_), HS.up, fun r hr => Nat.le_trans (HS.top r hr) hg.size⟩ (Nat.le_trans hlo hg.size)
 have h1 := HO.1 k he.symm
 have h2 := HT r hr
 have h3 := hk.2
 simp only at h1
 omega
end
def wi_ (r : S52 × Value × Nat × Nat) : List Value := [.int .i64 r.1.f0, r.2.1]
theorem perm5 {α : Type} (x m u s l : α) : [x, m, u, s, l].Perm [s, m, x, u, l] := ((List.perm_append_comm (l₁ := [x, m, u]) (l₂ := [s])).append_right [l]).trans ((List.Perm.swap m x [u, l]).cons s)
theorem apart_of {Rs Ss : List (List S48 × Value × Nat × Nat)} (h : Rs.Pairwise fun x y => x.2.2.2 ≤ y.2.2.1) (hp : Ss.Perm Rs) (i j : Nat) (x y : List S48 × Value × Nat × Nat) (hx : Ss[i]? = some x) (hy : Ss[j]? = some y) (k : Nat) (h1 : x.2.2.1 ≤ k ∧ k < x.2.2.2) (h2 : y.2.2.1 ≤ k ∧ k < y.2.2.2) : i = j := by
 have h3 : Rs.Pairwise fun x y : List S48 × Value × Nat × Nat => ∀ k, ¬ ((x.2.2.1 ≤ k ∧ k < x.2.2.2) ∧ (y.2.2.1 ≤ k ∧ k < y.2.2.2)) := h.imp (fun hxy k hk => by omega)
 have h4 := (hp.pairwise_iff (fun {x y} hxy k hk => hxy k ⟨hk.2, hk.1⟩)).2 h3
 obtain ⟨hi, ei⟩ := List.getElem?_eq_some_iff.1 hx
 obtain ⟨hj, ej⟩ := List.getElem?_eq_some_iff.1 hy
 rcases Nat.lt_trichotomy i j with hij | hij | hij
 ·have := List.pairwise_iff_getElem.1 h4 i j hi hj hij k
  rw [ei, ej] at this; exact absurd ⟨h1, h2⟩ this
 ·exact hij
 have := List.pairwise_iff_getElem.1 h4 j i hj hi hij k
 rw [ei, ej] at this
 exact absurd ⟨h2, h1⟩ this
theorem styles_S {w W : World} {Rs : List (List S48 × Value × Nat × Nat)} (h : StW w W Rs) (Ss : List (S52 × Value × Nat × Nat)) (hp : (Ss.map fun r => (r.1.f1, r.2)).Perm Rs) (hn : Ss.length ≤ 1000) :
  Kd.S k52 52 (W.alloc (.cells (Ss.flatMap wi_).toArray 52)) w.heap.size (fun _ => True) (.slice (some ⟨W.heap.size, 0, none⟩) Ss.length Ss.length) (Ss.map (·.1)) := by
 have hm : ∀ r ∈ Ss, (r.1.f1, r.2) ∈ Rs := fun r hr => hp.mem_iff.1 (List.mem_map.2 ⟨r, hr, rfl⟩)
 obtain ⟨f, hrep⟩ := Kd.reps_tag (d := k52) (w := W) (base := w.heap.size) (ok := fun k => k < W.heap.size) (xs := Ss.map (·.1)) (inner := Ss.flatMap wi_) (fun j k => ∃ x, Ss[j]? = some x ∧ x.2.2.1 ≤ k ∧ k < x.2.2.2)
  (fun i j k ⟨x, hx, h1⟩ ⟨y, hy, h2⟩ => apart_of h.up hp i j (x.1.f1, x.2) (y.1.f1, y.2) (by rw [List.getElem?_map, hx]; rfl) (by rw [List.getElem?_map, hy]; rfl) k h1 h2)
  (fun j k ⟨x, hx, h1⟩ => Nat.lt_of_lt_of_le h1.2 (h.top _ (hm x (List.mem_of_getElem? hx))))
  (by rw [List.length_map]; exact eg_ wi_ 2 (fun _ => rfl) Ss)
  (fun j x hx => by
   rw [List.getElem?_map] at hx; obtain ⟨r, hr, rfl⟩ := Option.map_eq_some_iff.1 hx; show k52.M W w.heap.size _ r.1 (((Ss.flatMap wi_).drop (j * 2)).take 2); rw [rl_ wi_ 2 (fun _ => rfl) Ss j r hr]
   exact du_ W w.heap.size _ r.1 (Kd.R_mono (h.rows _ (hm r (List.mem_of_getElem? hr))) (fun k hk => ⟨r, hr, hk⟩)))
 refine ⟨f, fun k _ => trivial, Ss.flatMap wi_, ?_, ?_⟩
 ·have h2 := World.ownsRow_lit (base := w.heap.size) (e := 52) (size := 2) W (Ss.flatMap wi_).toArray Ss.length h.base (by simp [maxLen]; omega) (by simpa using eg_ wi_ 2 (fun _ => rfl) Ss)
  have h3 : (Ss.map (·.1)).zipIdx.length = Ss.length := by simp
  rw [h3]; show (W.alloc (.cells (Ss.flatMap wi_).toArray 52)).ownsRow w.heap.size 52 2 _ _ _
  simpa using h2
 refine hrep.imp_ (fun p c hp => (Kd.tag f k52).M_mono (fun k hk => ⟨trivial, fun he => ?_⟩) (Kd.M_below ((Kd.tag f k52).M_bound hp) (aa_ (Below.refl _ _) _)))
 have h3 : k = W.heap.size := by simpa [Value.ownBlock] using he
 have := hk.2.2.1
 omega
theorem yb_ (a b : Int) (w : World) : Calls Tryz.prog 120 #[.int .i64 a, .int .i64 b] w fun e w' => e = .returned (.agg #[.int .i64 1, .string (⟨#[]⟩ : BA), .int .i64 a, .int .i64 b, .int .i64 0]) ∧ Below w.heap.size w w' := l5_number.calls a b 1 ⟨#[]⟩ a b 0 w rfl
theorem dd_ (a : BA) (w : World) : Calls Tryz.prog 121 #[.string a] w fun e w' => e = .returned (.agg #[.int .i64 0, .string a, .int .i64 0, .int .i64 0, .int .i64 0]) ∧ Below w.heap.size w w' := l5_text.calls a 0 a 0 0 0 w rfl
theorem lo_ (w : World) : Calls Tryz.prog 72 #[] w fun e w' => ∃ v : Value, e = .returned v ∧ Kd.S k52 52 w' w.heap.size (fun _ => True) v stylesP ∧ Below w.heap.size w w' := by
 obtain ⟨W0, hW0⟩ : ∃ W0, W0 = w := ⟨_, rfl⟩
 have ST : Az (StW w W0 []) := ⟨by rw [hW0]; exact StW.nil w⟩
 have HW0 := aM_ hW0
 go_enter Tryz.func72, Tryz.ntmps72
 rw [← HW0.out]
 clear hW0
 go_wp2_with fail
 refine (yb_ 0 4 _).mono ?_
 rintro e W1 ⟨rfl, hb⟩
 have ST1 := aM_ (ST.out.step hb)
 clear ST
 have ST := ST1
 clear ST1
 clear hb
 go_wp2_with fail
 refine (dd_ ⟨#[45]⟩ _).mono ?_
 rintro e W2 ⟨rfl, hb⟩
 have ST1 := aM_ (ST.out.step hb)
 clear ST
 have ST := ST1
 clear ST1
 clear hb
 go_wp2_with fail
 refine (yb_ 1 2 _).mono ?_
 rintro e W3 ⟨rfl, hb⟩
 have ST1 := aM_ (ST.out.step hb)
 clear ST
 have ST := ST1
 clear ST1
 clear hb
 go_wp2_with fail
 refine (dd_ ⟨#[45]⟩ _).mono ?_
 rintro e W4 ⟨rfl, hb⟩
 have ST1 := aM_ (ST.out.step hb)
 clear ST
 have ST := ST1
 clear ST1
 clear hb
 go_wp2_with fail
 refine (yb_ 2 2 _).mono ?_
 rintro e W5 ⟨rfl, hb⟩
 have ST1 := aM_ (ST.out.step hb)
 clear ST
 have ST := ST1
 clear ST1
 clear hb
 have ST1 : Az (∃ hi, StW w (W5.alloc (.cells (List.flatMap xd_ dayP).toArray 48)) (_ ++ [(dayP, .slice (some ⟨W5.heap.size, 0, none⟩) 5 5, W5.heap.size, hi)])) := ⟨_, ST.out.lit dayP (by decide)⟩
 clear ST
 obtain ⟨q1, hq⟩ := ST1.out
 have ST := aM_ hq
 clear ST1 hq
 go_wp2_with fail
 refine (yb_ 0 2 _).mono ?_
 rintro e W6 ⟨rfl, hb⟩
 have ST1 := aM_ (ST.out.step hb)
 clear ST
 have ST := ST1
 clear ST1
 clear hb
 generalize W5.heap.size = z6 at *
 go_wp2_with fail
 refine (dd_ ⟨#[58]⟩ _).mono ?_
 rintro e W7 ⟨rfl, hb⟩
 have ST1 := aM_ (ST.out.step hb)
 clear ST
 have ST := ST1
 clear ST1
 clear hb
 go_wp2_with fail
 refine (yb_ 1 2 _).mono ?_
 rintro e W8 ⟨rfl, hb⟩
 have ST1 := aM_ (ST.out.step hb)
 clear ST
 have ST := ST1
 clear ST1
 clear hb
 go_wp2_with fail
 refine (dd_ ⟨#[58]⟩ _).mono ?_
 rintro e W9 ⟨rfl, hb⟩
 have ST1 := aM_ (ST.out.step hb)
 clear ST
 have ST := ST1
 clear ST1
 clear hb
 go_wp2_with fail
 refine (yb_ 2 2 _).mono ?_
 rintro e W10 ⟨rfl, hb⟩
 have ST1 := aM_ (ST.out.step hb)
 clear ST
 have ST := ST1
 clear ST1
 clear hb
 have ST1 : Az (∃ hi, StW w (W10.alloc (.cells (List.flatMap xd_ kh_).toArray 48)) (_ ++ [(kh_, .slice (some ⟨W10.heap.size, 0, none⟩) 5 5, W10.heap.size, hi)])) := ⟨_, ST.out.lit kh_ (by decide)⟩
 clear ST
 obtain ⟨q2, hq⟩ := ST1.out
 have ST := aM_ hq
 clear ST1 hq
 have hs : (W10.alloc (.cells (List.flatMap xd_ kh_).toArray 48)).heap.size = W10.heap.size + 1 := (by simp)
 have HT := aM_ (hs ▸ ST.out.top)
 have HL : Az (w.heap.size ≤ W10.heap.size + 1) := ⟨hs ▸ ST.out.base⟩
 have HV : Az (Kd.R k48 48 ((W10.alloc (.cells (List.flatMap xd_ kh_).toArray 48)).alloc (.cells #[] 48)) w.heap.size (fun k => W10.heap.size + 1 ≤ k) (.slice (some ⟨W10.heap.size + 1, 0, none⟩) 0 0) []) := ⟨hs ▸ uh_ [] ST.out.base (by decide)⟩
 have ST1 := aM_ (ST.out.step (aa_ (Below.refl _ _) (.cells #[] 48)))
 clear ST
 have ST := ST1
 clear ST1
 have HZ : Az (W10.heap.size + 1 ≤ ((W10.alloc (.cells (List.flatMap xd_ kh_).toArray 48)).alloc (.cells #[] 48)).heap.size) := ⟨by rw [← hs]; simp⟩
 have HD := aM_ (ST.out.rows (dayP, _, _, _) (by simp only [List.nil_append, List.cons_append, List.mem_cons]; exact Or.inl rfl))
 clear hs
 go_wp2_with (at_builtin; (refine pj_ (w := w) (W10.heap.size + 1) _ dayP _ _ _ rfl (.tmp 18) (.tmp 19) rfl rfl rfl ST.out HT.out HL.out HZ.out (by have := HV.out; exact this) HD.out (by decide) ?_); intro v20 W11 hv hst hlo; have HV1 := aM_ hv; have ST1 := aM_ hst; have HZ1 := aM_ hlo; clear hv hst hlo HV ST HZ HD; have HV := HV1; have ST := ST1; have HZ := HZ1; clear HV1 ST1 HZ1)
 refine (dd_ ⟨#[32]⟩ _).mono ?_
 rintro e W12 ⟨rfl, hb⟩
 have ST1 := aM_ (ST.out.step hb)
 clear ST
 have ST := ST1
 clear ST1
 have HV1 := aM_ (Kd.R_below HV.out hb)
 clear HV
 have HV := HV1
 clear HV1
 have HZ1 := aM_ (Nat.le_trans HZ.out hb.size)
 clear HZ
 have HZ := HZ1
 clear HZ1
 clear hb
 go_wp2_with fail
 refine (yb_ 3 2 _).mono ?_
 rintro e W13 ⟨rfl, hb⟩
 have ST1 := aM_ (ST.out.step hb)
 clear ST
 have ST := ST1
 clear ST1
 have HV1 := aM_ (Kd.R_below HV.out hb)
 clear HV
 have HV := HV1
 clear HV1
 have HZ1 := aM_ (Nat.le_trans HZ.out hb.size)
 clear HZ
 have HZ := HZ1
 clear HZ1
 clear hb
 go_wp2_with fail
 refine (dd_ ⟨#[58]⟩ _).mono ?_
 rintro e W14 ⟨rfl, hb⟩
 have ST1 := aM_ (ST.out.step hb)
 clear ST
 have ST := ST1
 clear ST1
 have HV1 := aM_ (Kd.R_below HV.out hb)
 clear HV
 have HV := HV1
 clear HV1
 have HZ1 := aM_ (Nat.le_trans HZ.out hb.size)
 clear HZ
 have HZ := HZ1
 clear HZ1
 clear hb
 go_wp2_with fail
 refine (yb_ 4 2 _).mono ?_
 rintro e W15 ⟨rfl, hb⟩
 have ST1 := aM_ (ST.out.step hb)
 clear ST
 have ST := ST1
 clear ST1
 have HV1 := aM_ (Kd.R_below HV.out hb)
 clear HV
 have HV := HV1
 clear HV1
 have HZ1 := aM_ (Nat.le_trans HZ.out hb.size)
 clear HZ
 have HZ := HZ1
 clear HZ1
 clear hb
 go_wp2_with fail
 refine (dd_ ⟨#[58]⟩ _).mono ?_
 rintro e W16 ⟨rfl, hb⟩
 have ST1 := aM_ (ST.out.step hb)
 clear ST
 have ST := ST1
 clear ST1
 have HV1 := aM_ (Kd.R_below HV.out hb)
 clear HV
 have HV := HV1
 clear HV1
 have HZ1 := aM_ (Nat.le_trans HZ.out hb.size)
 clear HZ
 have HZ := HZ1
 clear HZ1
 clear hb
 go_wp2_with fail
 refine (yb_ 5 2 _).mono ?_
 rintro e W17 ⟨rfl, hb⟩
 have ST1 := aM_ (ST.out.step hb)
 clear ST
 have ST := ST1
 clear ST1
 have HV1 := aM_ (Kd.R_below HV.out hb)
 clear HV
 have HV := HV1
 clear HV1
 have HZ1 := aM_ (Nat.le_trans HZ.out hb.size)
 clear HZ
 have HZ := HZ1
 clear HZ1
 clear hb
 have HR : Az (Kd.R k48 48 (W17.alloc (.cells (List.flatMap xd_ bi_).toArray 48)) w.heap.size (fun k => W17.heap.size ≤ k) (.slice (some ⟨W17.heap.size, 0, none⟩) 6 6) bi_) := ⟨uh_ bi_ ST.out.base (by decide)⟩
 have ST1 := aM_ (ST.out.step (aa_ (Below.refl _ _) (.cells (List.flatMap xd_ bi_).toArray 48)))
 clear ST
 have ST := ST1
 clear ST1
 have HV1 := aM_ (Kd.R_alloc HV.out (.cells (List.flatMap xd_ bi_).toArray 48))
 clear HV
 have HV := HV1
 clear HV1
 have HZ1 := aM_ (Nat.le_trans HZ.out (qa_ (aa_ (Below.refl _ W17) (.cells (List.flatMap xd_ bi_).toArray 48))))
 clear HZ
 have HZ := HZ1
 clear HZ1
 go_wp2_with (first | (at_builtin; (refine pj_ (w := w) (W10.heap.size + 1) _ bi_ _ _ _ rfl (.tmp 20) (.tmp 27) rfl rfl rfl ST.out HT.out HL.out HZ.out HV.out HR.out (by decide) ?_); intro v18 W18 hv hst hlo; (obtain ⟨A18, c18, e1, _⟩ : ∃ A c, v18 = .slice A 11 c ∧ True := (by obtain ⟨A, c, e, _⟩ := Kd.R_reads hv; exact ⟨A, c, e, trivial⟩)); subst e1; (obtain ⟨q3, hq⟩ : ∃ hi, StW w W18 (_ ++ [(dayP ++ bi_, (.slice A18 11 c18), (W10.heap.size + 1), hi)]) := ⟨_, hst.snoc HT.out hv⟩); have ST1 := aM_ hq; clear hv hst hlo hq HV ST HZ HR HT HL; have ST := ST1; clear ST1) | (at_builtin; have hs : W18.heap.size = W18.heap.size := (by rfl); have HT := aM_ (hs ▸ ST.out.top); have HL : Az (w.heap.size ≤ W18.heap.size) := ⟨hs ▸ ST.out.base⟩; have HV : Az (Kd.R k48 48 (W18.alloc (.cells #[] 48)) w.heap.size (fun k => W18.heap.size ≤ k) (.slice (some ⟨W18.heap.size, 0, none⟩) 0 0) []) := ⟨hs ▸ uh_ [] ST.out.base (by decide)⟩; have ST1 := aM_ (ST.out.step (aa_ (Below.refl _ _) (.cells #[] 48))); clear ST; have ST := ST1; clear ST1; have HZ : Az (W18.heap.size ≤ (W18.alloc (.cells #[] 48)).heap.size) := ⟨by rw [← hs]; simp⟩; have HD := aM_ (ST.out.rows (dayP, _, _, _) (by simp only [List.nil_append, List.cons_append, List.mem_cons]; exact Or.inl rfl)); clear hs; (refine pj_ (w := w) (W18.heap.size) _ dayP _ _ _ rfl (.tmp 29) (.tmp 30) rfl rfl rfl ST.out HT.out HL.out HZ.out (by have := HV.out; exact this) HD.out (by decide) ?_); intro v31 W19 hv hst hlo; have HV1 := aM_ hv; have ST1 := aM_ hst; have HZ1 := aM_ hlo; clear hv hst hlo HV ST HZ HD; have HV := HV1; have ST := ST1; have HZ := HZ1; clear HV1 ST1 HZ1))
 refine (dd_ ⟨#[32, 116, 111, 32]⟩ _).mono ?_
 rintro e W20 ⟨rfl, hb⟩
 have ST1 := aM_ (ST.out.step hb)
 clear ST
 have ST := ST1
 clear ST1
 have HV1 := aM_ (Kd.R_below HV.out hb)
 clear HV
 have HV := HV1
 clear HV1
 have HZ1 := aM_ (Nat.le_trans HZ.out hb.size)
 clear HZ
 have HZ := HZ1
 clear HZ1
 clear hb
 go_wp2_with fail
 refine (yb_ 3 4 _).mono ?_
 rintro e W21 ⟨rfl, hb⟩
 have ST1 := aM_ (ST.out.step hb)
 clear ST
 have ST := ST1
 clear ST1
 have HV1 := aM_ (Kd.R_below HV.out hb)
 clear HV
 have HV := HV1
 clear HV1
 have HZ1 := aM_ (Nat.le_trans HZ.out hb.size)
 clear HZ
 have HZ := HZ1
 clear HZ1
 clear hb
 go_wp2_with fail
 refine (dd_ ⟨#[45]⟩ _).mono ?_
 rintro e W22 ⟨rfl, hb⟩
 have ST1 := aM_ (ST.out.step hb)
 clear ST
 have ST := ST1
 clear ST1
 have HV1 := aM_ (Kd.R_below HV.out hb)
 clear HV
 have HV := HV1
 clear HV1
 have HZ1 := aM_ (Nat.le_trans HZ.out hb.size)
 clear HZ
 have HZ := HZ1
 clear HZ1
 clear hb
 go_wp2_with fail
 refine (yb_ 4 2 _).mono ?_
 rintro e W23 ⟨rfl, hb⟩
 have ST1 := aM_ (ST.out.step hb)
 clear ST
 have ST := ST1
 clear ST1
 have HV1 := aM_ (Kd.R_below HV.out hb)
 clear HV
 have HV := HV1
 clear HV1
 have HZ1 := aM_ (Nat.le_trans HZ.out hb.size)
 clear HZ
 have HZ := HZ1
 clear HZ1
 clear hb
 go_wp2_with fail
 refine (dd_ ⟨#[45]⟩ _).mono ?_
 rintro e W24 ⟨rfl, hb⟩
 have ST1 := aM_ (ST.out.step hb)
 clear ST
 have ST := ST1
 clear ST1
 have HV1 := aM_ (Kd.R_below HV.out hb)
 clear HV
 have HV := HV1
 clear HV1
 have HZ1 := aM_ (Nat.le_trans HZ.out hb.size)
 clear HZ
 have HZ := HZ1
 clear HZ1
 clear hb
 go_wp2_with fail
 refine (yb_ 5 2 _).mono ?_
 rintro e W25 ⟨rfl, hb⟩
 have ST1 := aM_ (ST.out.step hb)
 clear ST
 have ST := ST1
 clear ST1
 have HV1 := aM_ (Kd.R_below HV.out hb)
 clear HV
 have HV := HV1
 clear HV1
 have HZ1 := aM_ (Nat.le_trans HZ.out hb.size)
 clear HZ
 have HZ := HZ1
 clear HZ1
 clear hb
 have HR : Az (Kd.R k48 48 (W25.alloc (.cells (List.flatMap xd_ ph_).toArray 48)) w.heap.size (fun k => W25.heap.size ≤ k) (.slice (some ⟨W25.heap.size, 0, none⟩) 6 6) ph_) := ⟨uh_ ph_ ST.out.base (by decide)⟩
 have ST1 := aM_ (ST.out.step (aa_ (Below.refl _ _) (.cells (List.flatMap xd_ ph_).toArray 48)))
 clear ST
 have ST := ST1
 clear ST1
 have HV1 := aM_ (Kd.R_alloc HV.out (.cells (List.flatMap xd_ ph_).toArray 48))
 clear HV
 have HV := HV1
 clear HV1
 have HZ1 := aM_ (Nat.le_trans HZ.out (qa_ (aa_ (Below.refl _ W25) (.cells (List.flatMap xd_ ph_).toArray 48))))
 clear HZ
 have HZ := HZ1
 clear HZ1
 go_wp2_with (at_builtin; (refine pj_ (w := w) (W18.heap.size) _ ph_ _ _ _ rfl (.tmp 31) (.tmp 38) rfl rfl rfl ST.out HT.out HL.out HZ.out HV.out HR.out (by decide) ?_); intro v26 W26 hv hst hlo; (obtain ⟨A26, c26, e1, _⟩ : ∃ A c, v26 = .slice A 11 c ∧ True := (by obtain ⟨A, c, e, _⟩ := Kd.R_reads hv; exact ⟨A, c, e, trivial⟩)); subst e1; (obtain ⟨q4, hq⟩ : ∃ hi, StW w W26 (_ ++ [(dayP ++ ph_, (.slice A26 11 c26), (W18.heap.size), hi)]) := ⟨_, hst.snoc HT.out hv⟩); have ST1 := aM_ hq; clear hv hst hlo hq HV ST HZ HR HT HL; have ST := ST1; clear ST1)
 refine (yb_ 1 0 _).mono ?_
 rintro e W27 ⟨rfl, hb⟩
 have ST1 := aM_ (ST.out.step hb)
 clear ST
 have ST := ST1
 clear ST1
 clear hb
 go_wp2_with fail
 refine (dd_ ⟨#[46]⟩ _).mono ?_
 rintro e W28 ⟨rfl, hb⟩
 have ST1 := aM_ (ST.out.step hb)
 clear ST
 have ST := ST1
 clear ST1
 clear hb
 go_wp2_with fail
 refine (yb_ 2 0 _).mono ?_
 rintro e W29 ⟨rfl, hb⟩
 have ST1 := aM_ (ST.out.step hb)
 clear ST
 have ST := ST1
 clear ST1
 clear hb
 go_wp2_with fail
 refine (dd_ ⟨#[32]⟩ _).mono ?_
 rintro e W30 ⟨rfl, hb⟩
 have ST1 := aM_ (ST.out.step hb)
 clear ST
 have ST := ST1
 clear ST1
 clear hb
 have ST1 : Az (∃ hi, StW w (W30.alloc (.cells (List.flatMap xd_ lk_).toArray 48)) (_ ++ [(lk_, .slice (some ⟨W30.heap.size, 0, none⟩) 5 5, W30.heap.size, hi)])) := ⟨_, ST.out.lit lk_ (by decide)⟩
 clear ST
 obtain ⟨q5, hq⟩ := ST1.out
 have ST := aM_ hq
 clear ST1 hq
 go_wp2_with fail
 refine (yb_ 0 0 _).mono ?_
 rintro e W31 ⟨rfl, hb⟩
 have ST1 := aM_ (ST.out.step hb)
 clear ST
 have ST := ST1
 clear ST1
 clear hb
 generalize W30.heap.size = z31 at *
 go_wp2_with fail
 refine (dd_ ⟨#[46]⟩ _).mono ?_
 rintro e W32 ⟨rfl, hb⟩
 have ST1 := aM_ (ST.out.step hb)
 clear ST
 have ST := ST1
 clear ST1
 clear hb
 go_wp2_with fail
 refine (yb_ 1 1 _).mono ?_
 rintro e W33 ⟨rfl, hb⟩
 have ST1 := aM_ (ST.out.step hb)
 clear ST
 have ST := ST1
 clear ST1
 clear hb
 have ST1 : Az (∃ hi, StW w (W33.alloc (.cells (List.flatMap xd_ fo_).toArray 48)) (_ ++ [(fo_, .slice (some ⟨W33.heap.size, 0, none⟩) 3 3, W33.heap.size, hi)])) := ⟨_, ST.out.lit fo_ (by decide)⟩
 clear ST
 obtain ⟨q6, hq⟩ := ST1.out
 have ST := aM_ hq
 clear ST1 hq
 go_wp2_with fail
 refine (yb_ 0 0 _).mono ?_
 rintro e W34 ⟨rfl, hb⟩
 have ST1 := aM_ (ST.out.step hb)
 clear ST
 have ST := ST1
 clear ST1
 clear hb
 generalize W33.heap.size = z34 at *
 go_wp2_with fail
 refine (dd_ ⟨#[32, 115]⟩ _).mono ?_
 rintro e W35 ⟨rfl, hb⟩
 have ST1 := aM_ (ST.out.step hb)
 clear ST
 have ST := ST1
 clear ST1
 clear hb
 have ST1 : Az (∃ hi, StW w (W35.alloc (.cells (List.flatMap xd_ durP).toArray 48)) (_ ++ [(durP, .slice (some ⟨W35.heap.size, 0, none⟩) 2 2, W35.heap.size, hi)])) := ⟨_, ST.out.lit durP (by decide)⟩
 clear ST
 obtain ⟨q7, hq⟩ := ST1.out
 have ST := aM_ hq
 clear ST1 hq
 go_wp2_with fail
 refine (yb_ 2 0 _).mono ?_
 rintro e W36 ⟨rfl, hb⟩
 have ST1 := aM_ (ST.out.step hb)
 clear ST
 have ST := ST1
 clear ST1
 clear hb
 generalize W35.heap.size = z36 at *
 go_wp2_with fail
 refine (dd_ ⟨#[32]⟩ _).mono ?_
 rintro e W37 ⟨rfl, hb⟩
 have ST1 := aM_ (ST.out.step hb)
 clear ST
 have ST := ST1
 clear ST1
 clear hb
 go_wp2_with fail
 refine (dd_ ⟨#[32]⟩ _).mono ?_
 rintro e W38 ⟨rfl, hb⟩
 have ST1 := aM_ (ST.out.step hb)
 clear ST
 have ST := ST1
 clear ST1
 clear hb
 go_wp2_with fail
 refine (yb_ 0 4 _).mono ?_
 rintro e W39 ⟨rfl, hb⟩
 have ST1 := aM_ (ST.out.step hb)
 clear ST
 have ST := ST1
 clear ST1
 clear hb
 have ST1 : Az (∃ hi, StW w (W39.alloc (.cells (List.flatMap xd_ im_).toArray 48)) (_ ++ [(im_, .slice (some ⟨W39.heap.size, 0, none⟩) 5 5, W39.heap.size, hi)])) := ⟨_, ST.out.lit im_ (by decide)⟩
 clear ST
 obtain ⟨q8, hq⟩ := ST1.out
 have ST := aM_ hq
 clear ST1 hq
 have hS := styles_S ST.out [(⟨4, dayP⟩, .slice (some ⟨z6, 0, none⟩) 5 5, z6, q1), (⟨5, kh_⟩, .slice (some ⟨W10.heap.size, 0, none⟩) 5 5, W10.heap.size, q2), (⟨6, dayP ++ bi_⟩, .slice A18 11 c18, W10.heap.size + 1, q3), (⟨7, fo_⟩, .slice (some ⟨z34, 0, none⟩) 3 3, z34, q6), (⟨8, lk_⟩, .slice (some ⟨z31, 0, none⟩) 5 5, z31, q5), (⟨9, durP⟩, .slice (some ⟨z36, 0, none⟩) 2 2, z36, q7), (⟨10, dayP ++ ph_⟩, .slice A26 11 c26, W18.heap.size, q4), (⟨4, im_⟩, .slice (some ⟨W39.heap.size, 0, none⟩) 5 5, W39.heap.size, q8)] ((((perm5 _ _ _ _ _).cons _).cons _).cons _) (Nat.le_of_ble_eq_true rfl)
 have hB := aa_ ST.out.below (.cells (List.flatMap wi_ [(⟨4, dayP⟩, .slice (some ⟨z6, 0, none⟩) 5 5, z6, q1), (⟨5, kh_⟩, .slice (some ⟨W10.heap.size, 0, none⟩) 5 5, W10.heap.size, q2), (⟨6, dayP ++ bi_⟩, .slice A18 11 c18, W10.heap.size + 1, q3), (⟨7, fo_⟩, .slice (some ⟨z34, 0, none⟩) 3 3, z34, q6), (⟨8, lk_⟩, .slice (some ⟨z31, 0, none⟩) 5 5, z31, q5), (⟨9, durP⟩, .slice (some ⟨z36, 0, none⟩) 2 2, z36, q7), (⟨10, dayP ++ ph_⟩, .slice A26 11 c26, W18.heap.size, q4), (⟨4, im_⟩, .slice (some ⟨W39.heap.size, 0, none⟩) 5 5, W39.heap.size, q8)]).toArray 52)
 have hz : (W39.alloc (.cells (List.flatMap xd_ im_).toArray 48)).heap.size = W39.heap.size + 1 := by simp
 rw [hz] at hS
 have HS := aM_ hS
 have HB := aM_ hB
 clear hS hB hz
 go_wp2
 go_ret
 rw [HW0.out]
 exact ⟨_, rfl, HS.out, HB.out⟩
noncomputable def l5_styles.f : Option (List S52) := some stylesP
theorem l5_styles.calls (r : List S52) (w : World) (h : l5_styles.f = some r) : Calls Tryz.prog 72 #[] w fun e w' => ∃ v0_ : Value, e = .returned (v0_) ∧ Kd.S k52 52 w' w.heap.size (fun _ => True) v0_ r ∧ Below w.heap.size w w' := by
 obtain rfl := Option.some.inj h
 exact lo_ w
end Go.Proofs.YtiocgaekoeekgaaGreat.P
end
section
namespace Go.Proofs.YtiocgaekoeekgaaGreat.P
open Go.RowKit YtiocgaekoeekgaaGreatW.PrintWords YtiocgaekoeekgaaGreatW.PrintLast YtiocgaekoeekgaaGreatW.PrintMore
attribute [local go_sem] vb_ tb_ fc_ dc_ ob_ nb_ ub_ sb_   
set_option linter.unusedVariables false
set_option linter.unusedSimpArgs false
noncomputable def l5_Sample.f (a0 : Int) (a1 : Int) : Option ((List (S44))) := (l5_words.f).bind fun t264 => ((l5_others.f).bind fun t267 => ((l5_styles.f).bind fun t270 => ((l5_dates.f a0).bind fun t273 => ((l5_within.f a1 4).bind fun t276 => (some (([(⟨(⟨#[98, 97, 115, 101]⟩ : BA), (-1), 0, t264, t267, t270⟩ : S44), (⟨(⟨#[101, 110]⟩ : BA), 0, 0, ([] : List (S46)), t273, ([] : List (S52))⟩ : S44), (⟨(⟨#[97, 114, 45, 49]⟩ : BA), 1, t276, (([(⟨(⟨#[109, 97, 105]⟩ : BA), 1, 5⟩ : S46)] : List (S46))), ([] : List (S56)), ([] : List (S52))⟩ : S44)] : List (S44))))))))
theorem l5_Sample.calls (a0 : Int) (a1 : Int) (r : List (S44)) (w : World) (h : l5_Sample.f a0 a1 = some r) :
  Calls Tryz.prog 31 #[.int .i64 a0, .int .i64 a1] w fun e w' => ∃ v0_ : Value, e = .returned (v0_) ∧ Kd.N k44 44 w' w.heap.size (fun k_ => (w.heap.size ≤ k_)) v0_ r ∧ Below w.heap.size w w' := by
 have hu44 := Tryz.underlying44
 have hu46 := Tryz.underlying46
 have HB := aM_ (Below.refl w.heap.size w)
 have H : ((l5_words.f).bind fun t264 => ((l5_others.f).bind fun t267 => ((l5_styles.f).bind fun t270 => ((l5_dates.f a0).bind fun t273 => ((l5_within.f a1 4).bind fun t276 => (some (([(⟨(⟨#[98, 97, 115, 101]⟩ : BA), (-1), 0, t264, t267, t270⟩ : S44), (⟨(⟨#[101, 110]⟩ : BA), 0, 0, ([] : List (S46)), t273, ([] : List (S52))⟩ : S44), (⟨(⟨#[97, 114, 45, 49]⟩ : BA), 1, t276, (([(⟨(⟨#[109, 97, 105]⟩ : BA), 1, 5⟩ : S46)] : List (S46))), ([] : List (S56)), ([] : List (S52))⟩ : S44)] : List (S44))))))))) = some r := h
 clear h
 replace H := Option.bind_eq_some_iff.mp H
 obtain ⟨t264, A30, H⟩ := H
 replace H : ((l5_others.f).bind fun t267 => ((l5_styles.f).bind fun t270 => ((l5_dates.f a0).bind fun t273 => ((l5_within.f a1 4).bind fun t276 => (some (([(⟨(⟨#[98, 97, 115, 101]⟩ : BA), (-1), 0, t264, t267, t270⟩ : S44), (⟨(⟨#[101, 110]⟩ : BA), 0, 0, ([] : List (S46)), t273, ([] : List (S52))⟩ : S44), (⟨(⟨#[97, 114, 45, 49]⟩ : BA), 1, t276, (([(⟨(⟨#[109, 97, 105]⟩ : BA), 1, 5⟩ : S46)] : List (S46))), ([] : List (S56)), ([] : List (S52))⟩ : S44)] : List (S44)))))))) = some r := H
 have A3 := aM_ A30
 clear A30
 replace H := Option.bind_eq_some_iff.mp H
 obtain ⟨t267, A40, H⟩ := H
 replace H : ((l5_styles.f).bind fun t270 => ((l5_dates.f a0).bind fun t273 => ((l5_within.f a1 4).bind fun t276 => (some (([(⟨(⟨#[98, 97, 115, 101]⟩ : BA), (-1), 0, t264, t267, t270⟩ : S44), (⟨(⟨#[101, 110]⟩ : BA), 0, 0, ([] : List (S46)), t273, ([] : List (S52))⟩ : S44), (⟨(⟨#[97, 114, 45, 49]⟩ : BA), 1, t276, (([(⟨(⟨#[109, 97, 105]⟩ : BA), 1, 5⟩ : S46)] : List (S46))), ([] : List (S56)), ([] : List (S52))⟩ : S44)] : List (S44))))))) = some r := H
 have A4 := aM_ A40
 clear A40
 replace H := Option.bind_eq_some_iff.mp H
 obtain ⟨t270, A50, H⟩ := H
 replace H : ((l5_dates.f a0).bind fun t273 => ((l5_within.f a1 4).bind fun t276 => (some (([(⟨(⟨#[98, 97, 115, 101]⟩ : BA), (-1), 0, t264, t267, t270⟩ : S44), (⟨(⟨#[101, 110]⟩ : BA), 0, 0, ([] : List (S46)), t273, ([] : List (S52))⟩ : S44), (⟨(⟨#[97, 114, 45, 49]⟩ : BA), 1, t276, (([(⟨(⟨#[109, 97, 105]⟩ : BA), 1, 5⟩ : S46)] : List (S46))), ([] : List (S56)), ([] : List (S52))⟩ : S44)] : List (S44)))))) = some r := H
 have A5 := aM_ A50
 clear A50
 replace H := Option.bind_eq_some_iff.mp H
 obtain ⟨t273, A60, H⟩ := H
 replace H : ((l5_within.f a1 4).bind fun t276 => (some (([(⟨(⟨#[98, 97, 115, 101]⟩ : BA), (-1), 0, t264, t267, t270⟩ : S44), (⟨(⟨#[101, 110]⟩ : BA), 0, 0, ([] : List (S46)), t273, ([] : List (S52))⟩ : S44), (⟨(⟨#[97, 114, 45, 49]⟩ : BA), 1, t276, (([(⟨(⟨#[109, 97, 105]⟩ : BA), 1, 5⟩ : S46)] : List (S46))), ([] : List (S56)), ([] : List (S52))⟩ : S44)] : List (S44))))) = some r := H
 have A6 := aM_ A60
 clear A60
 replace H := Option.bind_eq_some_iff.mp H
 obtain ⟨t276, A70, H⟩ := H
 replace H : (some (([(⟨(⟨#[98, 97, 115, 101]⟩ : BA), (-1), 0, t264, t267, t270⟩ : S44), (⟨(⟨#[101, 110]⟩ : BA), 0, 0, ([] : List (S46)), t273, ([] : List (S52))⟩ : S44), (⟨(⟨#[97, 114, 45, 49]⟩ : BA), 1, t276, (([(⟨(⟨#[109, 97, 105]⟩ : BA), 1, 5⟩ : S46)] : List (S46))), ([] : List (S56)), ([] : List (S52))⟩ : S44)] : List (S44)))) = some r := H
 have A7 := aM_ A70
 clear A70
 obtain ⟨y277, hy277⟩ : ∃ y_ : List (S46), y_ = (([(⟨(⟨#[109, 97, 105]⟩ : BA), 1, 5⟩ : S46)] : List (S46))) := ⟨_, rfl⟩
 replace H : (some (([(⟨(⟨#[98, 97, 115, 101]⟩ : BA), (-1), 0, t264, t267, t270⟩ : S44), (⟨(⟨#[101, 110]⟩ : BA), 0, 0, ([] : List (S46)), t273, ([] : List (S52))⟩ : S44), (⟨(⟨#[97, 114, 45, 49]⟩ : BA), 1, t276, y277, ([] : List (S56)), ([] : List (S52))⟩ : S44)] : List (S44)))) = some r := by first | (rw [hy277]; with_reducible exact H) | (have H2_ := (Option.bind_some _ _).symm.trans H; rw [hy277]; with_reducible exact H2_) | (have H2_ := (Option.bind_some _ _).symm.trans H; with_reducible exact H2_) | with_reducible exact H | (rw [hy277]; exact H) | exact H
 have Ny277 := aM_ hy277
 clear hy277
 obtain ⟨y280, hy280⟩ : ∃ y_ : List (S44), y_ = (([(⟨(⟨#[98, 97, 115, 101]⟩ : BA), (-1), 0, t264, t267, t270⟩ : S44), (⟨(⟨#[101, 110]⟩ : BA), 0, 0, ([] : List (S46)), t273, ([] : List (S52))⟩ : S44), (⟨(⟨#[97, 114, 45, 49]⟩ : BA), 1, t276, y277, ([] : List (S56)), ([] : List (S52))⟩ : S44)] : List (S44))) := ⟨_, rfl⟩
 replace H : (some y280) = some r := by first | (rw [hy280]; with_reducible exact H) | (have H2_ := (Option.bind_some _ _).symm.trans H; rw [hy280]; with_reducible exact H2_) | (have H2_ := (Option.bind_some _ _).symm.trans H; with_reducible exact H2_) | with_reducible exact H | (rw [hy280]; exact H) | exact H
 have Ny280 := aM_ hy280
 clear hy280
 obtain rfl := Option.some.inj H
 go_enter Tryz.func31, Tryz.ntmps31
 go_wp2_with (first | ((with_reducible refine pb_ (f := 71) rfl ?_); refine nd_ (some 5) rfl rfl Tryz.func71 (by kernel_rfl) rfl #[] rfl (by (try simp only [List.map_toArray, List.map_cons, List.map_nil]); first | done | rfl | (simp only [List.length_drop, List.length_take]; rfl)) ?_; (with_reducible refine (l5_words.calls  t264 _ A3.out).mono ?_); rintro e w8 ⟨v265, rfl, ho0, hb⟩; refine ⟨_, rfl, ?_⟩; have n0_ := aM_ (Kd.R_lower (Kd.R_newM (M := fun k_ => (w.heap.size ≤ k_)) ho0 (qa_ (by repeat (first | (with_reducible first | exact HB.out | apply aa_ | apply ca_ | apply fa_) | exact HB.out))) (fun k_ h_ => h_)) (qa_ (by repeat (first | (with_reducible first | exact HB.out | apply aa_ | apply ca_ | apply fa_) | exact HB.out)))); have n1_ := aM_ (ga_ (by repeat (first | (with_reducible first | exact HB.out | apply aa_ | apply ca_ | apply fa_) | exact HB.out)) hb); clear HB; have HO266 := n0_; have HB := n1_; clear n0_ n1_; (try clear hb); (try clear hb2); (try clear hk); (try clear hi); (try clear ho0)) | ((with_reducible refine pb_ (f := 26) rfl ?_); refine nd_ (some 6) rfl rfl Tryz.func26 (by kernel_rfl) rfl #[] rfl (by (try simp only [List.map_toArray, List.map_cons, List.map_nil]); first | done | rfl | (simp only [List.length_drop, List.length_take]; rfl)) ?_; (with_reducible refine (l5_others.calls  t267 _ A4.out).mono ?_); rintro e w9 ⟨v268, rfl, ho0, hb⟩; refine ⟨_, rfl, ?_⟩; have n0_ := aM_ (Kd.R_below (by (with_reducible repeat (first | apply Kd.R_alloc | apply Kd.R_drewN | apply Kd.R_drew)); exact HO266.out) hb); have n1_ := aM_ (Kd.N_lower (Kd.N_mono (ok' := fun k_ => (w.heap.size ≤ k_) ∧ some k_ ≠ (v265 : Value).ownBlock) (Kd.S_N (Kd.S_bound ho0)) (fun k_ hk_ => ⟨(Nat.le_trans (qa_ (by repeat (first | (with_reducible first | exact HB.out | apply aa_ | apply ca_ | apply fa_) | exact HB.out))) hk_.2.1), (Kd.fresh' (Kd.R_lt (by (with_reducible repeat (first | apply Kd.R_alloc | apply Kd.R_drewN | apply Kd.R_drew)); exact HO266.out)) k_ hk_.2.1)⟩)) (qa_ (by repeat (first | (with_reducible first | exact HB.out | apply aa_ | apply ca_ | apply fa_) | exact HB.out)))); have n2_ := aM_ (ga_ (by repeat (first | (with_reducible first | exact HB.out | apply aa_ | apply ca_ | apply fa_) | exact HB.out)) hb); clear HO266; clear HB; have HO266 := n0_; have HO269 := n1_; have HB := n2_; clear n0_ n1_ n2_; (try clear hb); (try clear hb2); (try clear hk); (try clear hi); (try clear ho0)) | ((with_reducible refine pb_ (f := 72) rfl ?_); refine nd_ (some 7) rfl rfl Tryz.func72 (by kernel_rfl) rfl #[] rfl (by (try simp only [List.map_toArray, List.map_cons, List.map_nil]); first | done | rfl | (simp only [List.length_drop, List.length_take]; rfl)) ?_; (with_reducible refine (l5_styles.calls  t270 _ A5.out).mono ?_); rintro e w10 ⟨v271, rfl, ho0, hb⟩; refine ⟨_, rfl, ?_⟩; have n0_ := aM_ (Kd.R_below (by (with_reducible repeat (first | apply Kd.R_alloc | apply Kd.R_drewN | apply Kd.R_drew)); exact HO266.out) hb); have n1_ := aM_ (Kd.N_elder' (by (with_reducible repeat (first | apply Kd.N_alloc | apply Kd.N_drewN | apply Kd.N_drew)); exact HO269.out) (by first | exact Kd.N_base ho0 | exact Kd.N_base (Kd.S_N ho0) | exact Kd.R_base ho0) hb); have n2_ := aM_ (Kd.N_lower (Kd.N_mono (ok' := fun k_ => (w.heap.size ≤ k_) ∧ some k_ ≠ (v265 : Value).ownBlock ∧ some k_ ≠ (v268 : Value).ownBlock) (Kd.S_N (Kd.S_bound ho0)) (fun k_ hk_ => ⟨(Nat.le_trans (qa_ (by repeat (first | (with_reducible first | exact HB.out | apply aa_ | apply ca_ | apply fa_) | exact HB.out))) hk_.2.1), (Kd.fresh' (Kd.R_lt (by (with_reducible repeat (first | apply Kd.R_alloc | apply Kd.R_drewN | apply Kd.R_drew)); exact HO266.out)) k_ hk_.2.1), (Kd.fresh' (Kd.N_lt (by (with_reducible repeat (first | apply Kd.N_alloc | apply Kd.N_drewN | apply Kd.N_drew)); exact HO269.out)) k_ hk_.2.1)⟩)) (qa_ (by repeat (first | (with_reducible first | exact HB.out | apply aa_ | apply ca_ | apply fa_) | exact HB.out)))); have n3_ := aM_ (ga_ (by repeat (first | (with_reducible first | exact HB.out | apply aa_ | apply ca_ | apply fa_) | exact HB.out)) hb); clear HO266; clear HO269; clear HB; have HO266 := n0_; have HO269 := n1_; have HO272 := n2_; have HB := n3_; clear n0_ n1_ n2_ n3_; (try clear hb); (try clear hb2); (try clear hk); (try clear hi); (try clear ho0); obtain ⟨Ao11, co11, eo11⟩ := Kd.N_slice HO272.out; subst eo11; obtain ⟨Ao12, co12, eo12⟩ := Kd.N_slice HO269.out; subst eo12; obtain ⟨Ao13, co13, eo13⟩ := Kd.R_slice HO266.out; subst eo13) | ((with_reducible refine pb_ (f := 27) rfl ?_); refine nd_ (some 10) rfl rfl Tryz.func27 (by kernel_rfl) rfl #[.int .i64 a0] rfl (by (try simp only [List.map_toArray, List.map_cons, List.map_nil]); first | done | rfl | (simp only [List.length_drop, List.length_take]; rfl)) ?_; (with_reducible refine (l5_dates.calls a0 t273 _ A6.out).mono ?_); rintro e w14 ⟨v274, rfl, ho0, hb⟩; refine ⟨_, rfl, ?_⟩; have n0_ := aM_ (Kd.R_below (by (with_reducible repeat (first | apply Kd.R_alloc | apply Kd.R_drewN | apply Kd.R_drew)); exact HO266.out) hb); have n1_ := aM_ (Kd.N_elder' (by (with_reducible repeat (first | apply Kd.N_alloc | apply Kd.N_drewN | apply Kd.N_drew)); exact HO269.out) (by first | exact Kd.N_base ho0 | exact Kd.N_base (Kd.S_N ho0) | exact Kd.R_base ho0) hb); have n2_ := aM_ (Kd.N_elder' (by (with_reducible repeat (first | apply Kd.N_alloc | apply Kd.N_drewN | apply Kd.N_drew)); exact HO272.out) (by first | exact Kd.N_base ho0 | exact Kd.N_base (Kd.S_N ho0) | exact Kd.R_base ho0) hb); have n3_ := aM_ (Kd.N_lower (Kd.N_mono (ok' := fun k_ => (w.heap.size ≤ k_) ∧ some k_ ≠ (.slice Ao13 t264.length co13 : Value).ownBlock ∧ some k_ ≠ (.slice Ao12 t267.length co12 : Value).ownBlock ∧ some k_ ≠ (.slice Ao11 t270.length co11 : Value).ownBlock) (Kd.S_N (Kd.S_bound ho0)) (fun k_ hk_ => ⟨(Nat.le_trans (qa_ (by repeat (first | (with_reducible first | exact HB.out | apply aa_ | apply ca_ | apply fa_) | exact HB.out))) hk_.2.1), (Kd.fresh' (Kd.R_lt (by (with_reducible repeat (first | apply Kd.R_alloc | apply Kd.R_drewN | apply Kd.R_drew)); exact HO266.out)) k_ hk_.2.1), (Kd.fresh' (Kd.N_lt (by (with_reducible repeat (first | apply Kd.N_alloc | apply Kd.N_drewN | apply Kd.N_drew)); exact HO269.out)) k_ hk_.2.1), (Kd.fresh' (Kd.N_lt (by (with_reducible repeat (first | apply Kd.N_alloc | apply Kd.N_drewN | apply Kd.N_drew)); exact HO272.out)) k_ hk_.2.1)⟩)) (qa_ (by repeat (first | (with_reducible first | exact HB.out | apply aa_ | apply ca_ | apply fa_) | exact HB.out)))); have n4_ := aM_ (ga_ (by repeat (first | (with_reducible first | exact HB.out | apply aa_ | apply ca_ | apply fa_) | exact HB.out)) hb); clear HO266; clear HO269; clear HO272; clear HB; have HO266 := n0_; have HO269 := n1_; have HO272 := n2_; have HO275 := n3_; have HB := n4_; clear n0_ n1_ n2_ n3_ n4_; (try clear hb); (try clear hb2); (try clear hk); (try clear hi); (try clear ho0); obtain ⟨Ao15, co15, eo15⟩ := Kd.N_slice HO275.out; subst eo15) | ((with_reducible refine pb_ (f := 19) rfl ?_); refine nd_ (some 13) rfl rfl Tryz.func19 (by kernel_rfl) rfl #[.int .i64 a1, .int .i64 4] rfl (by (try simp only [List.map_toArray, List.map_cons, List.map_nil]); first | done | rfl | (simp only [List.length_drop, List.length_take]; rfl)) ?_; (with_reducible refine (l5_within.calls a1 4 t276 _ A7.out).mono ?_); rintro e w' ⟨rfl, ⟨nd, rfl⟩⟩; refine ⟨_, rfl, ?_⟩) | ((with_reducible refine od_ (N := 15) rfl ?_); refine Kd.R_lit k46 _ 46 ?hg (N := 15) ?hd (xs := ([(⟨(⟨#[109, 97, 105]⟩ : BA), 1, 5⟩ : S46)] : List (S46))) (inner := [.string (⟨#[109, 97, 105]⟩ : BA), .int .i64 1, .int .i64 5]) (ok := fun _ => True) (okp := fun _ => True) ?hr ?hp (fun _ hk => hk) trivial (Below.refl _ _) (Nat.le_refl _) (by simp) ?_; (case hd => rfl); (case hg => rfl); (case hr => first | (go_simp; done) | (go_simp; rfl)); (case hp => exact (Reps.c3 (show Kd.M k46 _ _ _ (⟨(⟨#[109, 97, 105]⟩ : BA), 1, 5⟩ : S46) [.string (⟨#[109, 97, 105]⟩ : BA), .int .i64 1, .int .i64 5] from (qc_ _ _ _ (⟨(⟨#[109, 97, 105]⟩ : BA), 1, 5⟩ : S46) )) (Reps.none _ _))); intro v278 w16 ho17 hb hg_ hnew_; clear hg_ hnew_; (first | rw [← Ny277.out] at ho17 | (simp only [Int.reduceToNat] at ho17; rw [← Ny277.out] at ho17)); have n0_ := aM_ (Kd.R_elder' (by (with_reducible repeat (first | apply Kd.R_alloc | apply Kd.R_drewN | apply Kd.R_drew)); exact HO266.out) (Kd.R_base ho17) hb); have n1_ := aM_ (Kd.N_elder' (by (with_reducible repeat (first | apply Kd.N_alloc | apply Kd.N_drewN | apply Kd.N_drew)); exact HO269.out) (Kd.R_base ho17) hb); have n2_ := aM_ (Kd.N_elder' (by (with_reducible repeat (first | apply Kd.N_alloc | apply Kd.N_drewN | apply Kd.N_drew)); exact HO272.out) (Kd.R_base ho17) hb); have n3_ := aM_ (Kd.N_elder' (by (with_reducible repeat (first | apply Kd.N_alloc | apply Kd.N_drewN | apply Kd.N_drew)); exact HO275.out) (Kd.R_base ho17) hb); have n4_ := aM_ (Kd.R_lower (Kd.R_new' (Kd.R_newM (M := fun k_ => (w.heap.size ≤ k_)) ho17 (qa_ (by repeat (first | (with_reducible first | exact HB.out | apply aa_ | apply ca_ | apply fa_) | exact HB.out))) (fun k_ h_ => h_)) (Kd.R_lt (by (with_reducible repeat (first | apply Kd.R_alloc | apply Kd.R_drewN | apply Kd.R_drew)); exact HO266.out))) (qa_ (by repeat (first | (with_reducible first | exact HB.out | apply aa_ | apply ca_ | apply fa_) | exact HB.out)))); have n5_ := aM_ (ga_ (by repeat (first | (with_reducible first | exact HB.out | apply aa_ | apply ca_ | apply fa_) | exact HB.out)) hb); clear HO266; clear HO269; clear HO272; clear HO275; clear HB; have HO266 := n0_; have HO269 := n1_; have HO272 := n2_; have HO275 := n3_; have HO279 := n4_; have HB := n5_; clear n0_ n1_ n2_ n3_ n4_ n5_; clear hb ho17; obtain ⟨Ao18, co18, eo18⟩ := Kd.R_slice HO279.out; subst eo18) | ((with_reducible refine od_ (N := 17) rfl ?_); refine Kd.N_lit k44 _ 44 ?hg (N' := 17) ?hd (xs := ([(⟨(⟨#[98, 97, 115, 101]⟩ : BA), (-1), 0, t264, t267, t270⟩ : S44), (⟨(⟨#[101, 110]⟩ : BA), 0, 0, ([] : List (S46)), t273, ([] : List (S52))⟩ : S44), (⟨(⟨#[97, 114, 45, 49]⟩ : BA), 1, t276, y277, ([] : List (S56)), ([] : List (S52))⟩ : S44)] : List (S44))) (inner := [.string (⟨#[98, 97, 115, 101]⟩ : BA), .int .i64 (-1), .int .i64 0, .slice Ao13 t264.length co13, .slice Ao12 t267.length co12, .slice Ao11 t270.length co11, .string (⟨#[101, 110]⟩ : BA), .int .i64 0, .int .i64 0, .slice none 0 0, .slice Ao15 t273.length co15, .slice none 0 0, .string (⟨#[97, 114, 45, 49]⟩ : BA), .int .i64 1, .int .i64 t276, .slice Ao18 y277.length co18, .slice none 0 0, .slice none 0 0]) (ok := (fun k_ => (w.heap.size ≤ k_))) (okp := (fun k_ => (w.heap.size ≤ k_))) ?hr ?hp (fun _ hk => hk) ((show ∀ k_, w16.heap.size ≤ k_ → (fun k_ => (w.heap.size ≤ k_)) k_ from fun k_ hk => (Nat.le_trans (qa_ (by repeat (first | (with_reducible first | exact HB.out | apply aa_ | apply ca_ | apply fa_) | exact HB.out))) hk)) _ (Nat.le_refl _)) (Below.refl _ _) (Nat.le_refl _) (by simp) ?_; (case hd => rfl); (case hg => rfl); (case hr => first | (go_simp; done) | (go_simp; rfl)); (case hp => exact (Reps.c6 (show Kd.FK k44 _ _ (⟨(⟨#[98, 97, 115, 101]⟩ : BA), (-1), 0, t264, t267, t270⟩ : S44) [.string (⟨#[98, 97, 115, 101]⟩ : BA), .int .i64 (-1), .int .i64 0, .slice Ao13 t264.length co13, .slice Ao12 t267.length co12, .slice Ao11 t270.length co11] from (ql_ _ _ (⟨(⟨#[98, 97, 115, 101]⟩ : BA), (-1), 0, t264, t267, t270⟩ : S44) (Kd.R_reads' (Kd.R_mono (ok' := (fun k_ => (w.heap.size ≤ k_))) (HO266.out) (fun k_ hk => hk.1.1))).2.1 (Kd.R_F (Kd.R_mono (ok' := (fun k_ => (w.heap.size ≤ k_))) (HO266.out) (fun k_ hk => hk.1.1))) (Kd.N_reads' (Kd.N_mono (ok' := (fun k_ => (w.heap.size ≤ k_))) (HO269.out) (fun k_ hk => hk.1.1.1.1))).2.1 (Kd.N_F (Kd.N_mono (ok' := (fun k_ => (w.heap.size ≤ k_))) (HO269.out) (fun k_ hk => hk.1.1.1.1))) (Kd.N_reads' (Kd.N_mono (ok' := (fun k_ => (w.heap.size ≤ k_))) (HO272.out) (fun k_ hk => hk.1.1.1))).2.1 (Kd.N_F (Kd.N_mono (ok' := (fun k_ => (w.heap.size ≤ k_))) (HO272.out) (fun k_ hk => hk.1.1.1))))) (Reps.c6 (show Kd.FK k44 _ _ (⟨(⟨#[101, 110]⟩ : BA), 0, 0, ([] : List (S46)), t273, ([] : List (S52))⟩ : S44) [.string (⟨#[101, 110]⟩ : BA), .int .i64 0, .int .i64 0, .slice none 0 0, .slice Ao15 t273.length co15, .slice none 0 0] from (ql_ _ _ (⟨(⟨#[101, 110]⟩ : BA), 0, 0, ([] : List (S46)), t273, ([] : List (S52))⟩ : S44) (Nat.le_refl _) (Kd.F_nil _ _ _) (Kd.N_reads' (Kd.N_mono (ok' := (fun k_ => (w.heap.size ≤ k_))) (HO275.out) (fun k_ hk => hk.1.1))).2.1 (Kd.N_F (Kd.N_mono (ok' := (fun k_ => (w.heap.size ≤ k_))) (HO275.out) (fun k_ hk => hk.1.1))) (Nat.le_refl _) (Kd.F_nil _ _ _))) (Reps.c6 (show Kd.FK k44 _ _ (⟨(⟨#[97, 114, 45, 49]⟩ : BA), 1, t276, y277, ([] : List (S56)), ([] : List (S52))⟩ : S44) [.string (⟨#[97, 114, 45, 49]⟩ : BA), .int .i64 1, .int .i64 t276, .slice Ao18 y277.length co18, .slice none 0 0, .slice none 0 0] from (ql_ _ _ (⟨(⟨#[97, 114, 45, 49]⟩ : BA), 1, t276, y277, ([] : List (S56)), ([] : List (S52))⟩ : S44) (Kd.R_reads' (Kd.R_mono (ok' := (fun k_ => (w.heap.size ≤ k_))) (HO279.out) (fun k_ hk => hk.1.1))).2.1 (Kd.R_F (Kd.R_mono (ok' := (fun k_ => (w.heap.size ≤ k_))) (HO279.out) (fun k_ hk => hk.1.1))) (Nat.le_refl _) (Kd.F_nil _ _ _) (Nat.le_refl _) (Kd.F_nil _ _ _))) (Reps.none _ _))))); intro v281 w19 ho20 hb hg_ hnew_; clear hg_ hnew_; (first | rw [← Ny280.out] at ho20 | (simp only [Int.reduceToNat] at ho20; rw [← Ny280.out] at ho20)); have n0_ := aM_ (Kd.N_lower ho20 (qa_ (by repeat (first | (with_reducible first | exact HB.out | apply aa_ | apply ca_ | apply fa_) | exact HB.out)))); have n1_ := aM_ (ga_ (by repeat (first | (with_reducible first | exact HB.out | apply aa_ | apply ca_ | apply fa_) | exact HB.out)) hb); clear HB; clear HO266; clear HO269; clear HO272; clear HO275; clear HO279; have HO282 := n0_; have HB := n1_; clear n0_ n1_; clear hb ho20))
 go_ret
 exact ⟨_, by first | rfl | (simp [gb_, fb_] <;> rfl) | (simp [*, gb_, fb_] <;> rfl), by (with_reducible repeat (first | apply Kd.N_alloc | apply Kd.N_drewN | apply Kd.N_drew)); exact HO282.out, by repeat (first | (with_reducible first | exact HB.out | apply aa_ | apply ca_ | apply fa_) | exact HB.out)⟩
noncomputable def l4_Few.l0 : Nat → List (S120) → Int → Option (Bool)
 | 0, _, _ => none
 | k + 1, x0, x3 => if x3 < (x0.length : Int) then (if 0 ≤ x3 then (if (((sa_ x0 x3).f3).length : Int) > 20 then (some false) else (if (((sa_ x0 x3).f4).length : Int) > 20 then (some false) else (l4_Few.l0 k x0 (wrap64 (x3 + 1))))) else (none)) else (some (decide ((x0.length : Int) ≤ 80)))
noncomputable def l4_Few.f (k : Nat) (l0 : List (S120)) : Option (Bool) := l4_Few.l0 k l0 0
theorem l4_Few.calls (k : Nat) (A0 : Option Addr) (c0 : Nat) (l0 : List (S120)) (r : Bool) (w : World) (hr0 : Kd.C k120 w A0 l0.length l0) (hc0 : l0.length ≤ c0) (h : l4_Few.f k l0 = some r) :
  Calls Tryz.prog 30 #[.slice A0 l0.length c0] w fun e w' => e = .returned (.bool r) ∧ Drawn0 w w' := by
 have HR0 := aM_ hr0
 have HC0 := aM_ hc0
 clear hr0 hc0
 have H : (l4_Few.l0 k l0 0) = some r := h
 clear h
 have H' := aM_ H
 clear H
 go_enter Tryz.func30, Tryz.ntmps30
 go_wp2
 go_loopg [3] k (fun kq v3 w' => ∃ (x3_1 : Int), v3 = .int .i64 x3_1 ∧ Az (l4_Few.l0 kq l0 x3_1 = some r) ∧ Az (kq ≤ k) ∧ Drawn0 w w')
 case atStart => exact ⟨(0), (by first | rfl | (simp; done) | (simp [*]; done)), H', ⟨Nat.le_refl _⟩, by repeat (first | exact Drawn0.refl _ | apply Drawn0.step)⟩
 clear H'
 obtain ⟨x3_1, rfl, HA, HK1, ⟨m1, rfl⟩⟩ := hrel
 cases gk with
 | zero => exact absurd HA.out (by simp [l4_Few.l0])
 | succ k1 =>
  have H := HA.out; clear HA; simp only [l4_Few.l0] at H
  by_cases c2 : x3_1 < (l0.length : Int)
  ·rw [if_pos c2] at H
   have c2b0 : decide (x3_1 < (l0.length : Int)) = true := decide_eq_true c2; clear c2
   by_cases c3 : 0 ≤ x3_1
   ·rw [if_pos c3] at H
    have c3b0 : decide (0 ≤ x3_1) = true := decide_eq_true c3; clear c3
    by_cases c4 : (((sa_ l0 x3_1).f3).length : Int) > 20
    ·rw [if_pos c4] at H
     have c4b0 : decide (20 < (((sa_ l0 x3_1).f3).length : Int)) = true := decide_eq_true c4; have c4b1 : decide (20 < ((sa_ l0 x3_1).f3).length) = true := decide_eq_true (by omega); clear c4; obtain rfl := Option.some.inj H; have p255 : 0 ≤ (x3_1 : Int) := of_decide_eq_true (by first | (with_reducible assumption) | assumption); have q255 : x3_1 < (l0.length : Int) := of_decide_eq_true (by first | (with_reducible assumption) | assumption); obtain ⟨ad255, A255_3, c255_3, A255_4, c255_4, e255, hx255_0, hx255_1, hx255_2, hx255_3, hx255_4, hl255_3, hi255_3, hl255_4, hi255_4⟩ := lh_ HR0.out x3_1 p255 q255
     cases e255
     have HR255_3 := aM_ hi255_3; have HC255_3 := aM_ hl255_3; clear hi255_3 hl255_3; have HR255_4 := aM_ hi255_4; have HC255_4 := aM_ hl255_4; clear hi255_4 hl255_4; replace p255 := eq_true p255; replace q255 := eq_true q255
     go_wp2
     go_ret
     exact ⟨by first | rfl | (simp; done) | (simp [*]; done), by repeat (first | exact Drawn0.refl _ | apply Drawn0.step)⟩
    rw [if_neg c4] at H; have c4b0 : decide (20 < (((sa_ l0 x3_1).f3).length : Int)) = false := decide_eq_false c4; have c4b1 : decide (20 < ((sa_ l0 x3_1).f3).length) = false := decide_eq_false (by omega); clear c4
    by_cases c5 : (((sa_ l0 x3_1).f4).length : Int) > 20
    ·rw [if_pos c5] at H
     have c5b0 : decide (20 < (((sa_ l0 x3_1).f4).length : Int)) = true := decide_eq_true c5; have c5b1 : decide (20 < ((sa_ l0 x3_1).f4).length) = true := decide_eq_true (by omega); clear c5; obtain rfl := Option.some.inj H; have p255 : 0 ≤ (x3_1 : Int) := of_decide_eq_true (by first | (with_reducible assumption) | assumption); have q255 : x3_1 < (l0.length : Int) := of_decide_eq_true (by first | (with_reducible assumption) | assumption); obtain ⟨ad255, A255_3, c255_3, A255_4, c255_4, e255, hx255_0, hx255_1, hx255_2, hx255_3, hx255_4, hl255_3, hi255_3, hl255_4, hi255_4⟩ := lh_ HR0.out x3_1 p255 q255
     cases e255
     have HR255_3 := aM_ hi255_3; have HC255_3 := aM_ hl255_3; clear hi255_3 hl255_3; have HR255_4 := aM_ hi255_4; have HC255_4 := aM_ hl255_4; clear hi255_4 hl255_4; replace p255 := eq_true p255; replace q255 := eq_true q255; have p256 : 0 ≤ (x3_1 : Int) := of_decide_eq_true (by first | (with_reducible assumption) | assumption); have q256 : x3_1 < (l0.length : Int) := of_decide_eq_true (by first | (with_reducible assumption) | assumption); obtain ⟨ad256, A256_3, c256_3, A256_4, c256_4, e256, hx256_0, hx256_1, hx256_2, hx256_3, hx256_4, hl256_3, hi256_3, hl256_4, hi256_4⟩ := lh_ HR0.out x3_1 p256 q256; obtain rfl : ad255 = ad256 := (by injection e256); have HR256_3 := aM_ hi256_3; have HC256_3 := aM_ hl256_3; clear hi256_3 hl256_3; have HR256_4 := aM_ hi256_4; have HC256_4 := aM_ hl256_4; clear hi256_4 hl256_4; replace p256 := eq_true p256; replace q256 := eq_true q256; have ea_ := Option.some.inj (hx255_3.symm.trans hx256_3); injection ea_ with ea_ en_ ec_; subst ea_; subst ec_; clear en_; have ea_ := Option.some.inj (hx255_4.symm.trans hx256_4); injection ea_ with ea_ en_ ec_; subst ea_; subst ec_; clear en_
     go_wp2
     go_ret
     exact ⟨by first | rfl | (simp; done) | (simp [*]; done), by repeat (first | exact Drawn0.refl _ | apply Drawn0.step)⟩
    rw [if_neg c5] at H; have c5b0 : decide (20 < (((sa_ l0 x3_1).f4).length : Int)) = false := decide_eq_false c5; have c5b1 : decide (20 < ((sa_ l0 x3_1).f4).length) = false := decide_eq_false (by omega); clear c5; have H' := aM_ H; clear H; have p255 : 0 ≤ (x3_1 : Int) := of_decide_eq_true (by first | (with_reducible assumption) | assumption); have q255 : x3_1 < (l0.length : Int) := of_decide_eq_true (by first | (with_reducible assumption) | assumption); obtain ⟨ad255, A255_3, c255_3, A255_4, c255_4, e255, hx255_0, hx255_1, hx255_2, hx255_3, hx255_4, hl255_3, hi255_3, hl255_4, hi255_4⟩ := lh_ HR0.out x3_1 p255 q255
    cases e255
    have HR255_3 := aM_ hi255_3; have HC255_3 := aM_ hl255_3; clear hi255_3 hl255_3; have HR255_4 := aM_ hi255_4; have HC255_4 := aM_ hl255_4; clear hi255_4 hl255_4; replace p255 := eq_true p255; replace q255 := eq_true q255; have p256 : 0 ≤ (x3_1 : Int) := of_decide_eq_true (by first | (with_reducible assumption) | assumption); have q256 : x3_1 < (l0.length : Int) := of_decide_eq_true (by first | (with_reducible assumption) | assumption); obtain ⟨ad256, A256_3, c256_3, A256_4, c256_4, e256, hx256_0, hx256_1, hx256_2, hx256_3, hx256_4, hl256_3, hi256_3, hl256_4, hi256_4⟩ := lh_ HR0.out x3_1 p256 q256; obtain rfl : ad255 = ad256 := (by injection e256); have HR256_3 := aM_ hi256_3; have HC256_3 := aM_ hl256_3; clear hi256_3 hl256_3; have HR256_4 := aM_ hi256_4; have HC256_4 := aM_ hl256_4; clear hi256_4 hl256_4; replace p256 := eq_true p256; replace q256 := eq_true q256; have ea_ := Option.some.inj (hx255_3.symm.trans hx256_3); injection ea_ with ea_ en_ ec_; subst ea_; subst ec_; clear en_; have ea_ := Option.some.inj (hx255_4.symm.trans hx256_4); injection ea_ with ea_ en_ ec_; subst ea_; subst ec_; clear en_
    go_wp2
    go_roundg k1
    case measure => have := HK1.out; omega
    case rel => exact ⟨(wrap64 (x3_1 + 1)), (by first | rfl | (simp; done) | (simp [*]; done)), H', ⟨by have := HK1.out; omega⟩, by repeat (first | exact Drawn0.refl _ | apply Drawn0.step)⟩
   rw [if_neg c3] at H; exact absurd H (by simp)
  rw [if_neg c2] at H; have c2b0 : decide (x3_1 < (l0.length : Int)) = false := decide_eq_false c2; clear c2; obtain rfl := Option.some.inj H
  go_wp2
  go_ret
  exact ⟨by first | rfl | (simp; done) | (simp [*]; done), by repeat (first | exact Drawn0.refl _ | apply Drawn0.step)⟩
noncomputable def l5_Shape_Few.f (k : Nat) (a0_0 : Int) (a0_1 : Int) (a0_2 : Int) (a0_3 : Int) (l0_4 : List (S120)) (a0_5 : Bool) : Option (Bool) := (l4_Few.f k l0_4).bind fun t258 => (if t258 = true then (some (decide ((l0_4.length : Int) ≤ 12))) else (some false))
theorem l5_Shape_Few.calls (k : Nat) (a0_0 : Int) (a0_1 : Int) (a0_2 : Int) (a0_3 : Int) (A0_4 : Option Addr) (c0_4 : Nat) (l0_4 : List (S120)) (a0_5 : Bool) (r : Bool) (w : World) (hr0_4 : Kd.C k120 w A0_4 l0_4.length l0_4) (hc0_4 : l0_4.length ≤ c0_4) (h : l5_Shape_Few.f k a0_0 a0_1 a0_2 a0_3 l0_4 a0_5 = some r) :
  Calls Tryz.prog 12 #[.agg #[.int .i64 a0_0, .int .i64 a0_1, .int .i64 a0_2, .int .i64 a0_3, .slice A0_4 l0_4.length c0_4, .bool a0_5]] w fun e w' => e = .returned (.bool r) ∧ Below w.heap.size w w' := by
 have hu24 := Tryz.underlying24
 have HR0_4 := aM_ hr0_4
 have HC0_4 := aM_ hc0_4
 clear hr0_4 hc0_4
 have HB := aM_ (Below.refl w.heap.size w)
 have H : ((l4_Few.f k l0_4).bind fun t258 => (if t258 = true then (some (decide ((l0_4.length : Int) ≤ 12))) else (some false))) = some r := h
 clear h
 replace H := Option.bind_eq_some_iff.mp H
 obtain ⟨t258, A20, H⟩ := H
 replace H : (if t258 = true then (some (decide ((l0_4.length : Int) ≤ 12))) else (some false)) = some r := H
 have A2 := aM_ A20
 clear A20
 by_cases c3 : t258 = true
 ·subst c3
  have H1 : (some (decide ((l0_4.length : Int) ≤ 12))) = some r := by rw [if_pos rfl] at H; exact H
  clear H; have H := H1; clear H1; obtain rfl := Option.some.inj H
  go_enter Tryz.func12, Tryz.ntmps12
  go_wp2_with (first | ((with_reducible refine od_ (N := 1) rfl ?_); (try (refine dg_ (by rfl) ?_; dsimp only)); refine we_ ?hg (N := 1) ?hd (cs := #[.int .i64 a0_0, .int .i64 a0_1, .int .i64 a0_2, .int .i64 a0_3, .slice A0_4 l0_4.length c0_4, .bool a0_5]) (t := 24) ?hr ?_; (case hd => rfl); (case hg => rfl); (case hr => first | (go_simp; done) | (go_simp; rfl)); intro gb257 hg w4 hbox hb; have n0_ := aM_ (ga_ (by repeat (first | (with_reducible first | exact HB.out | apply aa_ | apply ca_ | apply fa_) | exact HB.out)) hb); have n1_ := aM_ (hbox); have n2_ := aM_ ((by rw [hg]; exact (qa_ (by repeat (first | (with_reducible first | exact HB.out | apply aa_ | apply ca_ | apply fa_) | exact HB.out))) : w.heap.size ≤ gb257)); have n3_ := aM_ ((by rw [hg]; exact (qa_ (by repeat (first | (with_reducible first | exact HB.out | apply aa_ | apply ca_ | apply fa_) | exact HB.out))) : w.heap.size ≤ gb257)); clear HB; have HB := n0_; have BK257 := n1_; have GW257 := n2_; have GE257 := n3_; clear n0_ n1_ n2_ n3_; clear hb hbox hg; have hcz5_0 : w4.cell? ⟨gb257, 0, none⟩ = some (.int .i64 a0_0) := (ba_ BK257.out 0).trans rfl; have hcz5_1 : w4.cell? ⟨gb257, 1, none⟩ = some (.int .i64 a0_1) := (ba_ BK257.out 1).trans rfl; have hcz5_2 : w4.cell? ⟨gb257, 2, none⟩ = some (.int .i64 a0_2) := (ba_ BK257.out 2).trans rfl; have hcz5_3 : w4.cell? ⟨gb257, 3, none⟩ = some (.int .i64 a0_3) := (ba_ BK257.out 3).trans rfl; have hcz5_4 : w4.cell? ⟨gb257, 4, none⟩ = some (.slice A0_4 l0_4.length c0_4) := (ba_ BK257.out 4).trans rfl; have hcz5_5 : w4.cell? ⟨gb257, 5, none⟩ = some (.bool a0_5) := (ba_ BK257.out 5).trans rfl; have hfz5_0 := da_ BK257.out 0; have hfz5_1 := da_ BK257.out 1; have hfz5_2 := da_ BK257.out 2; have hfz5_3 := da_ BK257.out 3; have hfz5_4 := da_ BK257.out 4; have hfz5_5 := da_ BK257.out 5) | ((with_reducible refine pb_ (f := 30) rfl ?_); refine nd_ (some 5) rfl rfl Tryz.func30 (by kernel_rfl) rfl #[.slice A0_4 l0_4.length c0_4] rfl (by (try simp only [List.map_toArray, List.map_cons, List.map_nil]); first | done | rfl | (simp only [List.length_drop, List.length_take]; rfl)) ?_; (with_reducible refine (l4_Few.calls k _ _ l0_4 true _ ?side1 ?side2 A2.out).mono ?_); (case side1 => repeat (first | exact (Kd.C_below HR0_4.out HB.out) | (with_reducible refine Kd.C_alloc ?_ _) | (with_reducible refine Kd.C_drewN ?_ _) | (with_reducible refine Kd.C_drew ?_))); (case side2 => exact HC0_4.out); rintro e w' ⟨rfl, ⟨nd, rfl⟩⟩; refine ⟨_, rfl, ?_⟩))
  go_ret
  exact ⟨by first | rfl | (simp [gb_, fb_] <;> rfl) | (simp [*, gb_, fb_] <;> rfl), by repeat (first | (with_reducible first | exact HB.out | apply aa_ | apply ca_ | apply fa_ | refine na_ ?_ GE257.out) | exact HB.out)⟩
 replace c3 := Bool.eq_false_iff.mpr c3
 subst c3
 have H1 : (some false) = some r := by rw [if_neg (show ¬ (false = true) by decide)] at H; exact H
 clear H
 have H := H1
 clear H1
 obtain rfl := Option.some.inj H
 go_enter Tryz.func12, Tryz.ntmps12
 go_wp2_with (first | ((with_reducible refine od_ (N := 1) rfl ?_); (try (refine dg_ (by rfl) ?_; dsimp only)); refine we_ ?hg (N := 1) ?hd (cs := #[.int .i64 a0_0, .int .i64 a0_1, .int .i64 a0_2, .int .i64 a0_3, .slice A0_4 l0_4.length c0_4, .bool a0_5]) (t := 24) ?hr ?_; (case hd => rfl); (case hg => rfl); (case hr => first | (go_simp; done) | (go_simp; rfl)); intro gb257 hg w6 hbox hb; have n0_ := aM_ (ga_ (by repeat (first | (with_reducible first | exact HB.out | apply aa_ | apply ca_ | apply fa_) | exact HB.out)) hb); have n1_ := aM_ (hbox); have n2_ := aM_ ((by rw [hg]; exact (qa_ (by repeat (first | (with_reducible first | exact HB.out | apply aa_ | apply ca_ | apply fa_) | exact HB.out))) : w.heap.size ≤ gb257)); have n3_ := aM_ ((by rw [hg]; exact (qa_ (by repeat (first | (with_reducible first | exact HB.out | apply aa_ | apply ca_ | apply fa_) | exact HB.out))) : w.heap.size ≤ gb257)); clear HB; have HB := n0_; have BK257 := n1_; have GW257 := n2_; have GE257 := n3_; clear n0_ n1_ n2_ n3_; clear hb hbox hg; have hcz7_0 : w6.cell? ⟨gb257, 0, none⟩ = some (.int .i64 a0_0) := (ba_ BK257.out 0).trans rfl; have hcz7_1 : w6.cell? ⟨gb257, 1, none⟩ = some (.int .i64 a0_1) := (ba_ BK257.out 1).trans rfl; have hcz7_2 : w6.cell? ⟨gb257, 2, none⟩ = some (.int .i64 a0_2) := (ba_ BK257.out 2).trans rfl; have hcz7_3 : w6.cell? ⟨gb257, 3, none⟩ = some (.int .i64 a0_3) := (ba_ BK257.out 3).trans rfl; have hcz7_4 : w6.cell? ⟨gb257, 4, none⟩ = some (.slice A0_4 l0_4.length c0_4) := (ba_ BK257.out 4).trans rfl; have hcz7_5 : w6.cell? ⟨gb257, 5, none⟩ = some (.bool a0_5) := (ba_ BK257.out 5).trans rfl; have hfz7_0 := da_ BK257.out 0; have hfz7_1 := da_ BK257.out 1; have hfz7_2 := da_ BK257.out 2; have hfz7_3 := da_ BK257.out 3; have hfz7_4 := da_ BK257.out 4; have hfz7_5 := da_ BK257.out 5) | ((with_reducible refine pb_ (f := 30) rfl ?_); refine nd_ (some 5) rfl rfl Tryz.func30 (by kernel_rfl) rfl #[.slice A0_4 l0_4.length c0_4] rfl (by (try simp only [List.map_toArray, List.map_cons, List.map_nil]); first | done | rfl | (simp only [List.length_drop, List.length_take]; rfl)) ?_; (with_reducible refine (l4_Few.calls k _ _ l0_4 false _ ?side1 ?side2 A2.out).mono ?_); (case side1 => repeat (first | exact (Kd.C_below HR0_4.out HB.out) | (with_reducible refine Kd.C_alloc ?_ _) | (with_reducible refine Kd.C_drewN ?_ _) | (with_reducible refine Kd.C_drew ?_))); (case side2 => exact HC0_4.out); rintro e w' ⟨rfl, ⟨nd, rfl⟩⟩; refine ⟨_, rfl, ?_⟩))
 go_ret
 exact ⟨by first | rfl | (simp [gb_, fb_] <;> rfl) | (simp [*, gb_, fb_] <;> rfl), by repeat (first | (with_reducible first | exact HB.out | apply aa_ | apply ca_ | apply fa_ | refine na_ ?_ GE257.out) | exact HB.out)⟩
def rk5 (x : Int) : Int := if x = 0 then 0 else if x = 9 then 2 else 1
def symB (x : Int) : Bool := decide (0 ≤ x) && decide (x < 20)
def riseB (r : S56) : Bool := match r.f1 with
 | [y] => !(symB r.f0 && symB y) || decide (rk5 r.f0 < rk5 y)
 | _ => true
def chkS (R : List S56) : Bool := decide (R.length ≤ 60) && (R.all zd_ && R.all riseB)
theorem gj_ (R : List S56) (h : chkS R = true) : zc_ R = true := by
 unfold chkS at h
 simp only [Bool.and_eq_true, decide_eq_true_eq] at h
 rw [qf_]
 refine ⟨h.1, h.2.1, fun x hx => cm_ _ rk5 (fun r hr y hy h1 h2 => ?_) x hx⟩
 have hb := List.all_eq_true.1 h.2.2 r hr
 unfold riseB at hb
 rw [hy] at hb
 have s1 : symB r.f0 = true := by unfold symB; rw [decide_eq_true h1.1, decide_eq_true h1.2]; rfl
 have s2 : symB y = true := by unfold symB; rw [decide_eq_true h2.1, decide_eq_true h2.2]; rfl
 simp only [s1, s2] at hb
 simpa using hb
theorem ou_ : stylesP.all le_ = true := by decide +kernel
theorem dv_ : chkS rf_ = true := by decide +kernel
theorem dates_ok : ∀ o : Fin 3, chkS (rf_ ++ jh_ ((o : Nat) : Int)) = true := by decide +kernel
def di_ {α : Type} (rd : List Int → Nat → Option (α × Nat)) (enc : α → List Int) (x : α) : Prop := ∀ (pre post b : List Int) (p : Nat), b = pre ++ (enc x ++ post) → p = pre.length → rd b p = some (x, p + (enc x).length)
def okI (n : Int) : Prop := -9223372036854775808 ≤ n ∧ n ≤ 9223372036854775807
theorem ku_ (x pre post b : List Int) (p : Nat) (hb : b = pre ++ (x ++ post)) (hp : p = pre.length) : ze_ b p x.length = some (x, p + x.length) := by
 subst hb hp
 unfold ze_
 rw [if_neg (by simp only [List.length_append]; omega), Int.toNat_natCast, List.drop_left, List.take_left]
theorem cg_ (n : Int) (h : okI n) : di_ pNum num8 n := by
 intro pre post b p hb hp
 have h1 := ku_ (num8 n) pre post b p hb hp
 rw [za_] at h1
 unfold pNum
 rw [show (8 : Int) = ((8 : Nat) : Int) from rfl, h1, za_]
 show some (val8 (num8 n), p + 8) = _
 rw [nu_ n h.1 h.2]
theorem qu_ (s : BA) : strOfNums (fd_ s) = s := by
 obtain ⟨d⟩ := s
 unfold strOfNums fd_
 congr 1
 rw [List.map_map]
 have h : ((fun n : Int => UInt8.ofNat n.toNat) ∘ fun b : UInt8 => (b.toNat : Int)) = id := by
  funext b
  simp
 rw [h, List.map_id]
theorem tr_ (s : BA) (h : s.size ≤ 9223372036854775807) : di_ bg_ txt8 s := by
 intro pre post b p hb hp
 have hb1 : b = pre ++ (num8 (s.size : Int) ++ (fd_ s ++ post)) := by rw [hb]; unfold txt8 ya_; simp
 have h1 := cg_ (s.size : Int) ⟨by omega, by omega⟩ pre _ b p hb1 hp
 have h2 := ku_ (fd_ s) (pre ++ num8 (s.size : Int)) post b (p + 8) (by rw [hb1]; simp) (by rw [List.length_append, za_, hp])
 rw [lf_] at h2
 unfold bg_
 rw [h1, Option.bind_some, za_]
 show (ze_ b (p + 8) (s.size : Int)).map _ = _
 rw [h2, ac_]
 show some (strOfNums (fd_ s), p + 8 + s.size) = _
 rw [qu_, Nat.add_assoc]
theorem rt_ {α : Type} {rd : List Int → Nat → Option (α × Nat)} {enc : α → List Int} : ∀ (l : List α), (∀ x ∈ l, di_ rd enc x) → ∀ (pre post b : List Int) (p : Nat), b = pre ++ (l.flatMap enc ++ post) → p = pre.length → xa_ (rd b) l.length p = some (l, p + (l.flatMap enc).length)
 | [], _, pre, post, b, p, hb, hp => rfl
 | x :: l, h, pre, post, b, p, hb, hp => by
  have h1 := h x List.mem_cons_self pre (l.flatMap enc ++ post) b p (by rw [hb]; simp) hp; have h2 := rt_ l (fun y hy => h y (List.mem_cons_of_mem _ hy)) (pre ++ enc x) post b (p + (enc x).length) (by rw [hb]; simp) (by rw [List.length_append, hp]); rw [List.length_cons, xa_, h1, Option.bind_some, h2]; simp only [Option.map_some, List.flatMap_cons, List.length_append, Nat.add_assoc]
theorem hu_ {α : Type} {enc : α → List Int} : ∀ (l : List α), (∀ x ∈ l, 8 ≤ (enc x).length) → 8 * l.length ≤ (l.flatMap enc).length
 | [], _ => Nat.le_refl _
 | x :: l, h => by
  have h1 := h x List.mem_cons_self; have h2 := hu_ l (fun y hy => h y (List.mem_cons_of_mem _ hy)); rw [List.flatMap_cons, List.length_append, List.length_cons]; omega
theorem nk_ {α : Type} {rd : List Int → Nat → Option (α × Nat)} {enc : α → List Int} (l : List α) (hl : l.length ≤ 9223372036854775807) (h8 : ∀ x ∈ l, 8 ≤ (enc x).length) (h : ∀ x ∈ l, di_ rd enc x) : di_ (fun b p => hb_ (rd b) b p) (bb_ enc) l := by
 intro pre post b p hb hp
 have hb1 : b = pre ++ (num8 (l.length : Int) ++ (l.flatMap enc ++ post)) := by rw [hb]; unfold bb_ ya_; simp
 have h1 := cg_ (l.length : Int) ⟨by omega, by omega⟩ pre _ b p hb1 hp
 have h2 := rt_ l h (pre ++ num8 (l.length : Int)) post b (p + 8) (by rw [hb1]; simp) (by rw [List.length_append, za_, hp])
 have h3 := hu_ l h8
 have h4 : b.length = p + 8 + (l.flatMap enc).length + post.length := by rw [hb1, hp]; simp only [List.length_append, za_]; omega
 show hb_ (rd b) b p = _
 unfold hb_
 rw [h1, Option.bind_some, za_]
 show (if (l.length : Int) < 0 ∨ ((b.length : Int) - ((p + 8 : Nat) : Int)) / 8 < (l.length : Int) then none else xa_ (rd b) (l.length : Int).toNat (p + 8)) = _
 rw [if_neg (by omega), Int.toNat_natCast, h2]
 unfold bb_ ya_
 simp only [List.length_append, List.flatMap_cons, List.flatMap_nil, List.append_nil, za_, Nat.add_assoc]
def okEnt (e : S46) : Prop := e.f0.size ≤ 9223372036854775807 ∧ okI e.f1 ∧ okI e.f2
theorem ent_r (e : S46) (h : okEnt e) : di_ pEnt ent8 e := by
 obtain ⟨s, c, v⟩ := e
 obtain ⟨h0, h1, h2⟩ := h
 intro pre post b p hb hp
 have hb1 : b = pre ++ (txt8 s ++ (num8 c ++ (num8 v ++ post))) := by rw [hb]; unfold ent8 ya_; simp
 have r0 := tr_ s h0 pre _ b p hb1 hp
 have r1 := cg_ c h1 (pre ++ txt8 s) (num8 v ++ post) b (p + (txt8 s).length) (by rw [hb1]; simp) (by rw [List.length_append, hp])
 have r2 := cg_ v h2 (pre ++ txt8 s ++ num8 c) post b (p + (txt8 s).length + (num8 c).length) (by rw [hb1]; simp) (by simp only [List.length_append, hp])
 unfold pEnt
 simp only [r0, Option.bind_some, r1, r2]
 unfold ent8 ya_
 simp only [List.length_append, List.flatMap_cons, List.flatMap_nil, List.append_nil, Nat.add_assoc]
def is_ (x : S48) : Prop := okI x.f0 ∧ x.f1.size ≤ 9223372036854775807 ∧ okI x.f2 ∧ okI x.f3 ∧ okI x.f4
theorem part_r (x : S48) (h : is_ x) : di_ sd_ kc_ x := by
 obtain ⟨k, s, f, v, c⟩ := x
 obtain ⟨h0, h1, h2, h3, h4⟩ := h
 intro pre post b p hb hp
 have hb1 : b = pre ++ (num8 k ++ (txt8 s ++ (num8 f ++ (num8 v ++ (num8 c ++ post))))) := by rw [hb]; unfold kc_ ya_; simp
 have r0 := cg_ k h0 pre _ b p hb1 hp
 have r1 := tr_ s h1 (pre ++ num8 k) (num8 f ++ (num8 v ++ (num8 c ++ post))) b (p + (num8 k).length) (by rw [hb1]; simp) (by simp only [List.length_append, hp])
 have r2 := cg_ f h2 (pre ++ num8 k ++ txt8 s) (num8 v ++ (num8 c ++ post)) b (p + (num8 k).length + (txt8 s).length) (by rw [hb1]; simp) (by simp only [List.length_append, hp])
 have r3 := cg_ v h3 (pre ++ num8 k ++ txt8 s ++ num8 f) (num8 c ++ post) b (p + (num8 k).length + (txt8 s).length + (num8 f).length) (by rw [hb1]; simp) (by simp only [List.length_append, hp])
 have r4 := cg_ c h4 (pre ++ num8 k ++ txt8 s ++ num8 f ++ num8 v) post b (p + (num8 k).length + (txt8 s).length + (num8 f).length + (num8 v).length) (by rw [hb1]; simp) (by simp only [List.length_append, hp])
 unfold sd_
 simp only [r0, Option.bind_some, r1, r2, r3, r4]
 unfold kc_ ya_
 simp only [List.length_append, List.flatMap_cons, List.flatMap_nil, List.append_nil, Nat.add_assoc]
theorem num8_ge (l : List Int) : ∀ x ∈ l, 8 ≤ (num8 x).length := fun x _ => by rw [za_]; omega
theorem part8_ge (x : S48) : 8 ≤ (kc_ x).length := by unfold kc_ ya_; simp only [List.length_append, List.flatMap_cons, List.flatMap_nil, List.append_nil, za_]; omega
theorem ent8_ge (x : S46) : 8 ≤ (ent8 x).length := by unfold ent8 ya_; simp only [List.length_append, List.flatMap_cons, List.flatMap_nil, List.append_nil, za_]; omega
def bp_ (l : List Int) : Prop := l.length ≤ 9223372036854775807 ∧ ∀ n ∈ l, okI n
theorem ints_r (l : List Int) (h : bp_ l) : di_ (fun b p => hb_ (pNum b) b p) hc_ l := nk_ (rd := pNum) (enc := num8) l h.1 (num8_ge l) (fun x hx => cg_ x (h.2 x hx))
def gs_ (x : S56) : Prop := okI x.f0 ∧ bp_ x.f1 ∧ okI x.f2.f0 ∧ bp_ x.f2.f1 ∧ okI x.f3
theorem rule_r (x : S56) (h : gs_ x) : di_ id_ wb_ x := by
 obtain ⟨k, l, ⟨o, q⟩, c⟩ := x
 obtain ⟨h0, h1, h2, h3, h4⟩ := h
 intro pre post b p hb hp
 have hb1 : b = pre ++ (num8 k ++ (hc_ l ++ (num8 o ++ (hc_ q ++ (num8 c ++ post))))) := by rw [hb]; unfold wb_; simp [ya_]
 have r0 := cg_ k h0 pre _ b p hb1 hp
 have r1 := ints_r l h1 (pre ++ num8 k) (num8 o ++ (hc_ q ++ (num8 c ++ post))) b (p + (num8 k).length) (by rw [hb1]; simp) (by simp only [List.length_append, hp])
 have r2 := cg_ o h2 (pre ++ num8 k ++ hc_ l) (hc_ q ++ (num8 c ++ post)) b (p + (num8 k).length + (hc_ l).length) (by rw [hb1]; simp) (by simp only [List.length_append, hp])
 have r3 := ints_r q h3 (pre ++ num8 k ++ hc_ l ++ num8 o) (num8 c ++ post) b (p + (num8 k).length + (hc_ l).length + (num8 o).length) (by rw [hb1]; simp) (by simp only [List.length_append, hp])
 have r4 := cg_ c h4 (pre ++ num8 k ++ hc_ l ++ num8 o ++ hc_ q) post b (p + (num8 k).length + (hc_ l).length + (num8 o).length + (hc_ q).length) (by rw [hb1]; simp) (by simp only [List.length_append, hp])
 simp only at r1 r3
 unfold id_
 simp only [r0, Option.bind_some, r1, r2, r3, r4]
 unfold wb_
 simp only [ya_, List.length_append, List.flatMap_cons, List.flatMap_nil, List.append_nil, Nat.add_assoc]
theorem rule8_ge (x : S56) : 8 ≤ (wb_ x).length := by unfold wb_; simp only [ya_, List.length_append, List.flatMap_cons, List.flatMap_nil, List.append_nil, za_]; omega
def yo_ (x : S52) : Prop := okI x.f0 ∧ x.f1.length ≤ 9223372036854775807 ∧ ∀ y ∈ x.f1, is_ y
theorem style_r (x : S52) (h : yo_ x) : di_ wc_ ib_ x := by
 obtain ⟨k, l⟩ := x
 obtain ⟨h0, h1, h2⟩ := h
 intro pre post b p hb hp
 have hb1 : b = pre ++ (num8 k ++ (bb_ kc_ l ++ post)) := by rw [hb]; unfold ib_; simp [ya_]
 have r0 := cg_ k h0 pre _ b p hb1 hp
 have r1 := nk_ (rd := sd_) (enc := kc_) l h1 (fun x _ => part8_ge x) (fun x hx => part_r x (h2 x hx)) (pre ++ num8 k) post b (p + (num8 k).length) (by rw [hb1]; simp) (by simp only [List.length_append, hp])
 simp only at r1
 unfold wc_
 simp only [r0, Option.bind_some, r1]
 unfold ib_
 simp only [ya_, List.length_append, List.flatMap_cons, List.flatMap_nil, List.append_nil, Nat.add_assoc]
theorem pu_ (x : S52) : 8 ≤ (ib_ x).length := by unfold ib_; simp only [ya_, List.length_append, List.flatMap_cons, List.flatMap_nil, List.append_nil, za_]; omega
def kk_ (x : S44) : Prop := x.f0.size ≤ 9223372036854775807 ∧ okI x.f1 ∧ okI x.f2 ∧ (x.f3.length ≤ 9223372036854775807 ∧ ∀ y ∈ x.f3, okEnt y) ∧ (x.f4.length ≤ 9223372036854775807 ∧ ∀ y ∈ x.f4, gs_ y) ∧ (x.f5.length ≤ 9223372036854775807 ∧ ∀ y ∈ x.f5, yo_ y)
theorem loc_r (x : S44) (h : kk_ x) : di_ pLoc loc8 x := by
 obtain ⟨s, f1, f2, f3, f4, f5⟩ := x
 obtain ⟨h0, h1, h2, h3, h4, h5⟩ := h
 intro pre post b p hb hp
 have hb1 : b = pre ++ (txt8 s ++ (num8 f1 ++ (num8 f2 ++ (bb_ ent8 f3 ++ (bb_ wb_ f4 ++ (bb_ ib_ f5 ++ post)))))) := by rw [hb]; unfold loc8; simp [ya_]
 have r0 := tr_ s h0 pre _ b p hb1 hp
 have r1 := cg_ f1 h1 (pre ++ txt8 s) (num8 f2 ++ (bb_ ent8 f3 ++ (bb_ wb_ f4 ++ (bb_ ib_ f5 ++ post)))) b (p + (txt8 s).length) (by rw [hb1]; simp) (by simp only [List.length_append, hp])
 have r2 := cg_ f2 h2 (pre ++ txt8 s ++ num8 f1) (bb_ ent8 f3 ++ (bb_ wb_ f4 ++ (bb_ ib_ f5 ++ post))) b (p + (txt8 s).length + (num8 f1).length) (by rw [hb1]; simp) (by simp only [List.length_append, hp])
 have r3 := nk_ (rd := pEnt) (enc := ent8) f3 h3.1 (fun x _ => ent8_ge x) (fun x hx => ent_r x (h3.2 x hx)) (pre ++ txt8 s ++ num8 f1 ++ num8 f2) (bb_ wb_ f4 ++ (bb_ ib_ f5 ++ post)) b (p + (txt8 s).length + (num8 f1).length + (num8 f2).length) (by rw [hb1]; simp) (by simp only [List.length_append, hp])
 have r4 := nk_ (rd := id_) (enc := wb_) f4 h4.1 (fun x _ => rule8_ge x) (fun x hx => rule_r x (h4.2 x hx)) (pre ++ txt8 s ++ num8 f1 ++ num8 f2 ++ bb_ ent8 f3) (bb_ ib_ f5 ++ post) b (p + (txt8 s).length + (num8 f1).length + (num8 f2).length + (bb_ ent8 f3).length) (by rw [hb1]; simp) (by simp only [List.length_append, hp])
 have r5 := nk_ (rd := wc_) (enc := ib_) f5 h5.1 (fun x _ => pu_ x) (fun x hx => style_r x (h5.2 x hx)) (pre ++ txt8 s ++ num8 f1 ++ num8 f2 ++ bb_ ent8 f3 ++ bb_ wb_ f4) post b (p + (txt8 s).length + (num8 f1).length + (num8 f2).length + (bb_ ent8 f3).length + (bb_ wb_ f4).length) (by rw [hb1]; simp) (by simp only [List.length_append, hp])
 simp only at r3 r4 r5
 unfold pLoc
 simp only [r0, Option.bind_some, r1, r2, r3, r4, r5]
 unfold loc8
 simp only [ya_, List.length_append, List.flatMap_cons, List.flatMap_nil, List.append_nil, Nat.add_assoc]
theorem loc8_ge (x : S44) : 8 ≤ (loc8 x).length := by unfold loc8; simp only [ya_, List.length_append, List.flatMap_cons, List.flatMap_nil, List.append_nil, za_]; omega
theorem enc_r (l : List S44) (post : List Int) (hl : l.length ≤ 9223372036854775807) (h : ∀ x ∈ l, kk_ x) : hb_ (pLoc (enc8 l ++ post)) (enc8 l ++ post) 0 = some (l, (enc8 l).length) := by
 have r := nk_ (rd := pLoc) (enc := loc8) l hl (fun x _ => loc8_ge x) (fun x hx => loc_r x (h x hx)) [] post (enc8 l ++ post) 0 rfl rfl
 rw [Nat.zero_add] at r
 exact r
theorem vc_ (a n : Int) (hn : 0 < n) (hn2 : n ≤ 4611686018427387904) : l4_within.f a n = some (a % n) := by
 unfold l4_within.f
 have h1 := Int.emod_nonneg a (by omega : n ≠ 0)
 have h2 := Int.emod_lt_of_pos a hn
 have h4 : (n.natAbs : Int) = n := by omega
 rw [if_neg (by omega)]
 have h3 := @Int.tmod_eq_emod a n
 by_cases hd : 0 ≤ a ∨ n ∣ a
 ·rw [if_pos hd] at h3
  rw [if_neg (by omega), h3]
  congr 1
  omega
 rw [if_neg hd, h4] at h3
 rw [if_pos (by omega), h3]
 congr 1
 unfold wrap64
 omega
theorem eh_ (a n : Int) (hn : 0 < n) : 0 ≤ a % n := Int.emod_nonneg a (by omega)
theorem dh_ (a n : Int) (hn : 0 < n) : a % n < n := Int.emod_lt_of_pos a hn
theorem as_fin {x n : Int} (m : Nat) (hm : n = m) (h0 : 0 ≤ x) (h1 : x < n) : ∃ i : Fin m, x = ((i.val : Nat) : Int) := ⟨⟨x.toNat, by omega⟩, by simp; omega⟩
def xi_ (P : Program) (t : TypeId) {α : Type} (d : Kd α) (ok : α → Prop) : Prop :=
 P.cellsOf t = d.sz ∧ ∀ (H : Type) (enc : TypeId × Value → H) (W : World) (base : Nat) (spare : Nat → Bool) (held : Bool) (fuel : Nat) (cs : List Value) (x : DataW H × List MemPlace), DataW.trod enc P W base spare held fuel t cs = some x → ∃ v : α, d.K W v cs ∧ ok v
theorem ev_ {P : Program} {t : TypeId} {k : IntKind} (ht : P.underlying t = some (.int k)) (hc : P.cellsOf t = 1) : xi_ P t (Kd.int k) (fun n => (Lit.int k n).wf = true) := by
 refine ⟨hc, fun H enc W base spare held fuel cs x h => ?_⟩
 obtain ⟨n, rfl, _, hw⟩ := DataW.trod_int ht h
 exact ⟨n, rfl, hw⟩
theorem zt_ {α : Type} {p : Nat → α → Prop} : ∀ n : Nat, (∀ i, i < n → ∃ v, p i v) → ∃ xs : List α, xs.length = n ∧ ∀ i v, xs[i]? = some v → p i v
 | 0, _ => ⟨[], rfl, fun i v h => by simp at h⟩
 | n + 1, h => by
  obtain ⟨xs, hl, hx⟩ := zt_ n (fun i hi => h i (by omega)); obtain ⟨v, hv⟩ := h n (by omega); refine ⟨xs ++ [v], by rw [List.length_append, hl]; rfl, fun i u hu => ?_⟩
  by_cases hi : i < xs.length
  ·rw [List.getElem?_append_left hi] at hu
   exact hx i u hu
  rw [List.getElem?_append_right (by omega)] at hu
  have h0 : i - xs.length = 0 := by
   have := (List.getElem?_eq_some_iff.1 hu).1; simp at this; omega
  rw [h0] at hu; obtain rfl := Option.some.inj hu; have : i = n := by omega
  rw [this]; exact hv
theorem dl_ {P : Program} {t e : TypeId} {α : Type} {d : Kd α} {ok : α → Prop} (ht : P.underlying t = some (.slice e)) (hc : P.cellsOf t = 1) (h : xi_ P e d ok) : xi_ P t (Kd.slice e d) (fun xs => ∀ x ∈ xs, ok x) := by
 refine ⟨hc, fun H enc W base spare held fuel cs x hx => ?_⟩
 rcases Go.Deep.open_slice ht hx with ⟨rfl, _⟩ | ⟨a, len, cap, m, n, D, Pl, rfl, _, hl, hm, hmm, _, hel⟩
 ·exact ⟨[], ⟨none, 0, rfl, Nat.le_refl _, rfl, by simp, fun h => absurd h (Nat.lt_irrefl _)⟩, by simp⟩
 have hle : len ≤ m := by rw [hmm]; split <;> omega
 obtain ⟨xs, hxl, hxs⟩ := zt_ (p := fun i v => ∃ cs', W.cells? base (a.add (i * d.sz)) d.sz = some cs' ∧ d.K W v cs' ∧ ok v) len (fun i hi => by
  obtain ⟨cs', h1, h2⟩ := hel i (by omega); obtain ⟨v, h3, h4⟩ := h.2 H enc W base spare held n cs' _ h2; rw [h.1] at h1
  exact ⟨v, cs', h1, h3, h4⟩)
 have hmax : maxLen ≤ 9223372036854775807 := by decide
 refine ⟨xs, ⟨some a, cap, by rw [hxl], by omega, rfl, by omega, fun _ => ⟨a, rfl, fun j p hj => ?_⟩⟩, fun y hy => ?_⟩
 ·obtain ⟨cs', h1, h2, _⟩ := hxs j p hj
  obtain ⟨_, h3, h4⟩ := World.cells?_some h1; refine ⟨cs', h3, h2, fun i u hu => ?_⟩; have h5 := h4 i (by rw [← h3]; exact (List.getElem?_eq_some_iff.1 hu).1); rw [hu, add_add] at h5; exact h5
 obtain ⟨j, hj, rfl⟩ := List.mem_iff_getElem.1 hy
 obtain ⟨_, _, _, h4⟩ := hxs j _ (List.getElem?_eq_getElem hj)
 exact h4
abbrev wfI (n : Int) : Prop := (Lit.int .i64 n).wf = true
theorem el_ : xi_ Tryz.prog 3 (Kd.int .i64) wfI := ev_ Tryz.underlying3 (by kernel_rfl)
theorem opInts : xi_ Tryz.prog 35 (Kd.slice 3 (Kd.int .i64)) (fun l => ∀ n ∈ l, wfI n) := dl_ Tryz.underlying35 (by kernel_rfl) el_
theorem qj_ {P : Program} {t : TypeId} {fs : Array Field} (ht : P.underlying t = some (.struct fs)) {H : Type} {enc : TypeId × Value → H} {W : World} {base : Nat} {spare : Nat → Bool} {held : Bool} {fuel : Nat} {cs : List Value} {x : DataW H × List MemPlace} (h : DataW.trod enc P W base spare held fuel t cs = some x) :
  cs.length = P.cellsOf t ∧ ∀ (i : Nat) (f : Field), fs[i]? = some f → ∀ {α : Type} {d : Kd α} {ok : α → Prop}, xi_ P f.type d ok → ∃ v, d.K W v ((cs.drop f.offset).take d.sz) ∧ ok v := by
 obtain ⟨xs, n, _, _, hl, hlen, hf⟩ := DataW.trod_struct ht h
 refine ⟨hl, fun i f hi α d ok ho => ?_⟩
 have h1 := hf i f hi
 have hil : i < xs.length := by
  have := (Array.getElem?_eq_some_iff.1 hi).1; omega
 rw [List.getElem?_eq_getElem hil, ho.1] at h1
 exact ho.2 H enc W base spare held n _ _ h1
def fl_ (x : S120) : Prop := wfI x.f0 ∧ wfI x.f1 ∧ wfI x.f2 ∧ (∀ n ∈ x.f3, wfI n) ∧ ∀ n ∈ x.f4, wfI n
theorem opRaw : xi_ Tryz.prog 120 k120 fl_ := by
 refine ⟨by kernel_rfl, fun H enc W base spare held fuel cs x h => ?_⟩
 obtain ⟨hl, hf⟩ := qj_ Tryz.underlying120 h
 have hl2 : cs.length = 5 := hl.trans (by kernel_rfl)
 obtain ⟨v0, k0, w0⟩ := hf 0 _ rfl el_
 obtain ⟨v1, k1, w1⟩ := hf 1 _ rfl el_
 obtain ⟨v2, k2, w2⟩ := hf 2 _ rfl el_
 obtain ⟨v3, ⟨A3, c3, k3, l3, g3⟩, w3⟩ := hf 3 _ rfl opInts
 obtain ⟨v4, ⟨A4, c4, k4, l4, g4⟩, w4⟩ := hf 4 _ rfl opInts
 match cs, hl2 with
 | [b0, b1, b2, b3, b4], _ =>
  have e0 : [b0] = [.int .i64 v0] := k0; have e1 : [b1] = [.int .i64 v1] := k1; have e2 : [b2] = [.int .i64 v2] := k2; have e3 : [b3] = [.slice A3 v3.length c3] := k3; have e4 : [b4] = [.slice A4 v4.length c4] := k4; rw [(List.cons.inj e0).1, (List.cons.inj e1).1, (List.cons.inj e2).1, (List.cons.inj e3).1, (List.cons.inj e4).1]; exact ⟨⟨v0, v1, v2, v3, v4⟩, k120_mk W ⟨v0, v1, v2, v3, v4⟩ l3 g3 l4 g4, w0, w1, w2, w3, w4⟩
theorem opRaws : xi_ Tryz.prog 22 (Kd.slice 120 k120) (fun l => ∀ x ∈ l, fl_ x) := dl_ Tryz.underlying22 (by kernel_rfl) opRaw
abbrev Raw' := S120
theorem bl_ (l : List Raw') (j : Nat) (h : j < l.length) : sa_ l j = l[j] := by
 unfold sa_
 rw [Int.toNat_natCast, List.getD_eq_getElem?_getD, List.getElem?_eq_getElem h]
 rfl
def fewB (l : List Raw') : Bool := l.all fun x => decide (x.f3.length ≤ 20 ∧ x.f4.length ≤ 20)
theorem few_loop (l : List Raw') (hl : l.length ≤ 9223372036854775807) : ∀ (d j : Nat), j + d = l.length → ∀ k, d < k → l4_Few.l0 k l j = some (fewB (l.drop j) && decide (l.length ≤ 80)) := by
 intro d
 induction d with
 | zero =>
  intro j hj k hk; obtain ⟨k, rfl⟩ : ∃ i, k = i + 1 := ⟨k - 1, by omega⟩; simp only [l4_Few.l0]; rw [if_neg (by omega), show j = l.length by omega, List.drop_length]; have : decide ((l.length : Int) ≤ 80) = decide (l.length ≤ 80) := decide_eq_decide.2 (by omega); rw [this]
  rfl
 | succ d ih =>
  intro j hj k hk; obtain ⟨k, rfl⟩ : ∃ i, k = i + 1 := ⟨k - 1, by omega⟩; have hlt : j < l.length := by omega
  have hw : wrap64 ((j : Int) + 1) = ((j + 1 : Nat) : Int) := by rw [pe_ (by omega)]; rfl
  have h1 := ih (j + 1) (by omega) k (by omega); simp only [l4_Few.l0]; rw [if_pos (by omega), if_pos (by omega), bl_ l j hlt, hw, h1, List.drop_eq_getElem_cons hlt]; unfold fewB; rw [List.all_cons]
  by_cases h3 : (l[j].f3.length : Int) > 20
  ·rw [if_pos h3, decide_eq_false (by omega)]; rfl
  rw [if_neg h3]
  by_cases h4 : (l[j].f4.length : Int) > 20
  ·rw [if_pos h4, decide_eq_false (by omega)]; rfl
  rw [if_neg h4, decide_eq_true (by omega : l[j].f3.length ≤ 20 ∧ l[j].f4.length ≤ 20)]; rfl
theorem few_some (l : List Raw') (hl : l.length ≤ 9223372036854775807) (k : Nat) (hk : l.length < k) : l4_Few.f k l = some (fewB l && decide (l.length ≤ 80)) := by
 have h := few_loop l hl l.length 0 (by omega) k hk
 rw [List.drop_zero] at h
 exact h
def kidOk (s : Int) (y : Int) : Prop := (0 ≤ y ∧ y < s) ∨ (-55 ≤ y ∧ y ≤ -1)
section
variable (s n a0 a1 a2 : Int) (l3 l4 : List Int) (c0 : Int) (rhs : List Int) (c2 c4 : Int)
theorem il_ (hn : n ≤ 3) (hr : 1 ≤ rhs.length) (hr2 : rhs.length ≤ 10) (h4 : l4.length ≤ 20) : ∀ (d j : Nat) (ps : List Int), (j : Int) + d = n → ps.length = j → (∀ p ∈ ps, 0 ≤ p ∧ p < (rhs.length : Int)) →
  ∃ ps' : List Int, (ps'.length : Int) = n ∧ (∀ p ∈ ps', 0 ≤ p ∧ p < (rhs.length : Int)) ∧ ∀ k, d < k → l4_Raw_Make.l1 k n j a0 a1 a2 l3 l4 c0 rhs c2 ps c4 = some (c0, rhs, c2, ps', c4) := by
 intro d
 induction d with
 | zero =>
  intro j ps hj hl hp; refine ⟨ps, by omega, hp, fun k hk => ?_⟩; obtain ⟨k, rfl⟩ : ∃ i, k = i + 1 := ⟨k - 1, by omega⟩; simp only [l4_Raw_Make.l1]
  rw [if_neg (by omega)]
 | succ d ih =>
  intro j ps hj hl hp; have hw : wrap64 ((j : Int) + 1) = ((j + 1 : Nat) : Int) := by rw [pe_ (by omega)]; rfl
  by_cases h : (j : Int) < (l4.length : Int)
  ·have hv0 := eh_ (rd l4 j) (rhs.length : Int) (by omega)
   have hv1 := dh_ (rd l4 j) (rhs.length : Int) (by omega)
   obtain ⟨ps', h1, h2, h3⟩ := ih (j + 1) (ps ++ [rd l4 j % (rhs.length : Int)]) (by omega) (by rw [List.length_append, hl]; rfl) (fun p hp' => by
    rcases List.mem_append.1 hp' with hp' | hp'
    ·exact hp p hp'
    rw [List.mem_singleton.1 hp']; exact ⟨hv0, hv1⟩)
   refine ⟨ps', h1, h2, fun k hk => ?_⟩; obtain ⟨k, rfl⟩ : ∃ i, k = i + 1 := ⟨k - 1, by omega⟩; simp only [l4_Raw_Make.l1]; rw [if_pos (by omega), if_pos h, if_pos (by omega), vc_ _ _ (by omega) (by omega), Option.bind_some, if_pos (by omega), hw]; exact h3 k (by omega)
  have hv0 := eh_ (j : Int) (rhs.length : Int) (by omega); have hv1 := dh_ (j : Int) (rhs.length : Int) (by omega)
  obtain ⟨ps', h1, h2, h3⟩ := ih (j + 1) (ps ++ [(j : Int) % (rhs.length : Int)]) (by omega) (by rw [List.length_append, hl]; rfl) (fun p hp' => by
   rcases List.mem_append.1 hp' with hp' | hp'
   ·exact hp p hp'
   rw [List.mem_singleton.1 hp']; exact ⟨hv0, hv1⟩)
  refine ⟨ps', h1, h2, fun k hk => ?_⟩; obtain ⟨k, rfl⟩ : ∃ i, k = i + 1 := ⟨k - 1, by omega⟩; simp only [l4_Raw_Make.l1]; rw [if_pos (by omega), if_neg h, vc_ _ _ (by omega) (by omega), Option.bind_some, if_pos (by omega), hw]; exact h3 k (by omega)
theorem mv_ : ∀ t : Fin 11, -55 ≤ wrap64 ((-1) - (rd ([0, 0, 0, 1, 2, 3, 50, 51, 52, 53, 54] : List Int) ((t.val : Nat) : Int))) ∧ wrap64 ((-1) - (rd ([0, 0, 0, 1, 2, 3, 50, 51, 52, 53, 54] : List Int) ((t.val : Nat) : Int))) ≤ -1 := by decide +kernel
theorem kv_ (s n a0 a1 a2 : Int) (l3 l4 : List Int) (c0 c2 c4 : Int) (hs : 1 ≤ s ∧ s ≤ 20) (hn : 1 ≤ n ∧ n ≤ 3) (h3 : l3.length ≤ 20) (hw3 : ∀ y ∈ l3, wfI y) (h4 : l4.length ≤ 20) (ha1 : wfI a1) : ∀ (d i : Nat) (rhs : List Int), i + d = 3 → rhs.length = i → (∀ y ∈ rhs, kidOk s y) →
  ∃ rhs' ps', (1 ≤ rhs'.length ∧ rhs'.length ≤ 3) ∧ (∀ y ∈ rhs', kidOk s y) ∧ ((ps'.length : Int) = n) ∧ (∀ p ∈ ps', 0 ≤ p ∧ p < (rhs'.length : Int)) ∧ ∀ k, 3 * d + 20 < k → l4_Raw_Make.l0 k s n i a0 a1 a2 l3 l4 c0 rhs c2 c4 = some (c0, rhs', c2, ps', c4) := by
 intro d
 induction d with
 | zero =>
  intro i rhs hi hl hk; obtain ⟨ps', p1, p2, p3⟩ := il_ n a0 a1 a2 l3 l4 c0 rhs c2 c4 hn.2 (by omega) (by omega) h4 n.toNat 0 [] (by omega) rfl (by simp); refine ⟨rhs, ps', ⟨by omega, by omega⟩, hk, p1, p2, fun k hk => ?_⟩; obtain ⟨k, rfl⟩ : ∃ j, k = j + 2 := ⟨k - 2, by omega⟩; have hm0 := eh_ (l3.length : Int) 3 (by omega); have hm1 := dh_ (l3.length : Int) 3 (by omega); rw [show k + 2 = (k + 1) + 1 by omega]; simp only [l4_Raw_Make.l0]; rw [vc_ _ 3 (by omega) (by omega), Option.bind_some, pe_ (by omega), if_neg (by omega), if_neg (by omega)]; simp only [l4_Raw_Make.j1, Bool.false_eq_true, if_false]
  exact p3 k (by omega)
 | succ d ih =>
  intro i rhs hi hl hk; have hm0 := eh_ (l3.length : Int) 3 (by omega); have hm1 := dh_ (l3.length : Int) 3 (by omega)
  obtain ⟨b, hb0, hb⟩ : ∃ b : Bool, (i = 0 → b = true) ∧ ∀ k, l4_Raw_Make.l0 (k + 1) s n i a0 a1 a2 l3 l4 c0 rhs c2 c4 = l4_Raw_Make.j1 k s n i b a0 a1 a2 l3 l4 c0 rhs c2 c4 := by
   by_cases h1 : (i : Int) < 1 + (l3.length : Int) % 3
   ·refine ⟨true, fun _ => rfl, fun k => ?_⟩
    simp only [l4_Raw_Make.l0]; rw [vc_ _ 3 (by omega) (by omega), Option.bind_some, pe_ (by omega), if_pos h1]
   by_cases h2 : (i : Int) < n
   ·refine ⟨(wrap64 (Int.tdiv a1 16) % 2 == 0), fun h => by omega, fun k => ?_⟩
    simp only [l4_Raw_Make.l0]; rw [vc_ _ 3 (by omega) (by omega), Option.bind_some, pe_ (by omega), if_neg h1, if_pos h2, vc_ _ 2 (by omega) (by omega), Option.bind_some]
   refine ⟨false, fun h => by omega, fun k => ?_⟩; simp only [l4_Raw_Make.l0]; rw [vc_ _ 3 (by omega) (by omega), Option.bind_some, pe_ (by omega), if_neg h1, if_neg h2]
  cases b with
  | false =>
   have hi1 : i ≠ 0 := fun h => by have := hb0 h; cases this
   obtain ⟨ps', p1, p2, p3⟩ := il_ n a0 a1 a2 l3 l4 c0 rhs c2 c4 hn.2 (by omega) (by omega) h4 n.toNat 0 [] (by omega) rfl (by simp); refine ⟨rhs, ps', ⟨by omega, by omega⟩, hk, p1, p2, fun k hk => ?_⟩; obtain ⟨k, rfl⟩ : ∃ j, k = j + 2 := ⟨k - 2, by omega⟩; rw [show k + 2 = (k + 1) + 1 by omega, hb]; simp only [l4_Raw_Make.j1, Bool.false_eq_true, if_false]
   exact p3 k (by omega)
  | true =>
   obtain ⟨v, hv⟩ : ∃ v : Int, ∀ k, l4_Raw_Make.j1 (k + 1) s n i true a0 a1 a2 l3 l4 c0 rhs c2 c4 = l4_Raw_Make.j2 k s n i v a0 a1 a2 l3 l4 c0 rhs c2 c4 := by
    by_cases h1 : (i : Int) < (l3.length : Int)
    ·refine ⟨rd l3 i, fun k => ?_⟩
     simp only [l4_Raw_Make.j1, if_true]; rw [if_pos h1, if_pos (by omega)]
    refine ⟨i, fun k => ?_⟩; simp only [l4_Raw_Make.j1, if_true]; rw [if_neg h1]
   have hw : wrap64 ((i : Int) + 1) = ((i + 1 : Nat) : Int) := by rw [pe_ (by omega)]; rfl
   obtain ⟨y, hy, hj⟩ : ∃ y : Int, kidOk s y ∧ ∀ k, l4_Raw_Make.j2 (k + 1) s n i v a0 a1 a2 l3 l4 c0 rhs c2 c4 = l4_Raw_Make.l0 k s n ((i + 1 : Nat) : Int) a0 a1 a2 l3 l4 c0 (rhs ++ [y]) c2 c4 := by
    by_cases h1 : wrap64 (Int.tdiv v 20) % 2 = 0
    (focus (obtain ⟨t, ht⟩ := as_fin 11 rfl (eh_ (wrap64 (Int.tdiv v 40)) 11 (by omega)) (dh_ (wrap64 (Int.tdiv v 40)) 11 (by omega)); refine ⟨_, .inr (mv_ t), fun k => ?_⟩; simp only [l4_Raw_Make.j2]; rw [vc_ v s (by omega) (by omega), Option.bind_some, vc_ _ 2 (by omega) (by omega), Option.bind_some, if_pos h1, Option.bind_some, vc_ _ 11 (by omega) (by omega), Option.bind_some, ht, if_pos (by omega), if_pos (by have := t.isLt; simp; omega), if_pos (by omega), hw])); refine ⟨v % s, .inl ⟨eh_ v s (by omega), dh_ v s (by omega)⟩, fun k => ?_⟩; simp only [l4_Raw_Make.j2]; rw [vc_ v s (by omega) (by omega), Option.bind_some, vc_ _ 2 (by omega) (by omega), Option.bind_some, if_neg h1, if_pos (by omega), hw]
   obtain ⟨rhs', ps', q1, q2, q3, q4, q5⟩ := ih (i + 1) (rhs ++ [y]) (by omega) (by rw [List.length_append, hl]; rfl) (fun z hz => by
    rcases List.mem_append.1 hz with hz | hz
    ·exact hk z hz
    rw [List.mem_singleton.1 hz]; exact hy)
   refine ⟨rhs', ps', q1, q2, q3, q4, fun k hk => ?_⟩; obtain ⟨k, rfl⟩ : ∃ j, k = j + 3 := ⟨k - 3, by omega⟩; rw [show k + 3 = ((k + 1) + 1) + 1 by omega, hb, hv, hj]; exact q5 k (by omega)
def rq_ (o : Nat) : Int := rd ([1, 3, 2, 2, 2, 2, 3, 1, 1, 2, 1, 1, 2, 2, 2, 2] : List Int) (o : Int)
theorem makeN_ok : ∀ o : Fin 16, (1 ≤ rq_ o.val ∧ rq_ o.val ≤ 3) ∧ (rd_ ((o.val : Nat) : Int)).1 ≤ rq_ o.val ∧ rq_ o.val ≤ (rd_ ((o.val : Nat) : Int)).2 := by decide +kernel
structure Made (s : Int) (r : jc_) : Prop where
 lhs : 0 ≤ r.f0 ∧ r.f0 < s
 len : 1 ≤ r.f1.length ∧ r.f1.length ≤ 3
 kids : ∀ y ∈ r.f1, kidOk s y
 right : zd_ r = true
theorem jv_ (x : Raw') (s : Int) (hs : 1 ≤ s ∧ s ≤ 20) (hx : fl_ x) (h3 : x.f3.length ≤ 20) (h4 : x.f4.length ≤ 20) :
  ∃ r : jc_, Made s r ∧ ∀ k, 40 ≤ k → l4_Raw_Make.f k x.f0 x.f1 x.f2 x.f3 x.f4 s = some (r.f0, r.f1, r.f2.f0, r.f2.f1, r.f3) := by
 obtain ⟨_, hw1, _, hw3, _⟩ := hx
 obtain ⟨o, ho⟩ := as_fin 16 rfl (eh_ x.f1 16 (by omega)) (dh_ x.f1 16 (by omega))
 have hn := makeN_ok o
 have hc0 := eh_ x.f2 101 (by omega)
 have hc1 := dh_ x.f2 101 (by omega)
 have hl0 := eh_ x.f0 s (by omega)
 have hl1 := dh_ x.f0 s (by omega)
 obtain ⟨rhs, ps, p1, p2, p3, p4, p5⟩ := kv_ s (rq_ o.val) x.f0 x.f1 x.f2 x.f3 x.f4 (x.f0 % s) ((o.val : Nat) : Int) (x.f2 % 101) hs hn.1 h3 hw3 h4 hw1 3 0 [] rfl rfl (by simp)
 refine ⟨⟨x.f0 % s, rhs, ⟨((o.val : Nat) : Int), ps⟩, x.f2 % 101⟩, ⟨⟨hl0, hl1⟩, p1, p2, ?_⟩, fun k hk => ?_⟩
 ·show mf_ (x.f0 % s) rhs ((o.val : Nat) : Int) ps (x.f2 % 101) = true
  unfold mf_ ef_ mc_; simp only [Bool.and_eq_true, decide_eq_true_eq, List.all_eq_true]; refine ⟨⟨hl0, by omega⟩, ⟨by omega, by omega⟩, fun y hy => ?_, ⟨hc0, by omega⟩, ⟨by omega, by omega⟩, fun p hp => ?_⟩
  ·unfold cf_
   rcases p2 y hy with h | h
   ·rw [decide_eq_true (by omega), decide_eq_true (by omega)]; rfl
   rw [decide_eq_true (by omega), decide_eq_true (by omega)]; rfl
  have h := p4 p hp; unfold ne_; rw [decide_eq_true h.1, decide_eq_true h.2]; rfl
 unfold l4_Raw_Make.f
 rw [vc_ x.f0 s (by omega) (by omega), Option.bind_some, vc_ x.f2 101 (by omega) (by omega), Option.bind_some, vc_ x.f1 16 (by omega) (by omega), Option.bind_some, Option.bind_some, ho, if_pos (by omega), if_pos (by have := o.isLt; simp; omega)]
 exact p5 k (by omega)
end
structure Told (s : Int) (out : List jc_) : Prop where
 made : ∀ r ∈ out, Made s r
 check : zc_ out = true
theorem rule_eta (r : jc_) : (⟨r.f0, r.f1, (⟨r.f2.f0, r.f2.f1⟩ : S54), r.f3⟩ : jc_) = r := rfl
theorem vr_ (l : List Raw') (s : Int) (hs : 1 ≤ s ∧ s ≤ 20) (hl : l.length ≤ 80) (hok : ∀ x ∈ l, fl_ x) (hf : ∀ x ∈ l, x.f3.length ≤ 20 ∧ x.f4.length ≤ 20) : ∀ (d i : Nat) (out : List jc_), i + d = l.length → out.length ≤ i → Told s out →
  ∃ res, Told s res ∧ ∀ k, 2 * d + 45 < k → l4_Rules.l0 k l s out i = some res := by
 intro d
 induction d with
 | zero =>
  intro i out hi ho ht; refine ⟨out, ht, fun k hk => ?_⟩; obtain ⟨k, rfl⟩ : ∃ j, k = j + 2 := ⟨k - 2, by omega⟩; rw [show k + 2 = (k + 1) + 1 by omega]; simp only [l4_Rules.l0]; rw [if_neg (by omega)]
  simp only [l4_Rules.j1, Bool.false_eq_true, if_false]
 | succ d ih =>
  intro i out hi ho ht; have hlt : i < l.length := by omega
  by_cases h20 : (i : Int) < 20
  ·obtain ⟨r, hr, hm⟩ := jv_ l[i] s hs (hok _ (List.getElem_mem hlt)) (hf _ (List.getElem_mem hlt)).1 (hf _ (List.getElem_mem hlt)).2
   have hw : wrap64 ((i : Int) + 1) = ((i + 1 : Nat) : Int) := by rw [pe_ (by omega)]; rfl
   have hmade : ∀ q ∈ out ++ [r], Made s q := by
    intro q hq
    rcases List.mem_append.1 hq with hq | hq
    ·exact ht.made q hq
    rw [List.mem_singleton.1 hq]; exact hr
   have hstep : ∀ k, 45 < k → l4_Rules.l0 (k + 2) l s out i = if zc_ (out ++ [r]) = true then l4_Rules.l0 k l s (out ++ [r]) ((i + 1 : Nat) : Int) else l4_Rules.l0 k l s out ((i + 1 : Nat) : Int) := by
    intro k hk; rw [show k + 2 = (k + 1) + 1 by omega]; simp only [l4_Rules.l0]; rw [if_pos (by omega), decide_eq_true h20]; simp only [l4_Rules.j1, if_true, Option.bind_some, List.nil_append, List.length_nil, Nat.zero_add]; rw [if_pos (by omega), if_pos (by omega), if_pos (by omega), bl_ l i hlt, hm k (by omega), Option.bind_some]; simp only [rule_eta]; rw [if_pos (by omega), hw]; rfl
   cases hc : zc_ (out ++ [r]) with
   | true =>
    obtain ⟨res, h1, h2⟩ := ih (i + 1) (out ++ [r]) (by omega) (by rw [List.length_append]; simp; omega) ⟨hmade, hc⟩; refine ⟨res, h1, fun k hk => ?_⟩; obtain ⟨k, rfl⟩ : ∃ j, k = j + 2 := ⟨k - 2, by omega⟩; rw [hstep k (by omega), hc, if_pos rfl]
    exact h2 k (by omega)
   | false =>
    obtain ⟨res, h1, h2⟩ := ih (i + 1) out (by omega) (by omega) ht; refine ⟨res, h1, fun k hk => ?_⟩; obtain ⟨k, rfl⟩ : ∃ j, k = j + 2 := ⟨k - 2, by omega⟩; rw [hstep k (by omega), hc, if_neg (by simp)]; exact h2 k (by omega)
  refine ⟨out, ht, fun k hk => ?_⟩; obtain ⟨k, rfl⟩ : ∃ j, k = j + 2 := ⟨k - 2, by omega⟩; rw [show k + 2 = (k + 1) + 1 by omega]; simp only [l4_Rules.l0]; rw [if_pos (by omega), decide_eq_false h20]; simp only [l4_Rules.j1, Bool.false_eq_true, if_false]
theorem jt_ : zc_ [] = true := by
 rw [qf_]
 exact ⟨by simp, rfl, fun x hx => cm_ _ id (fun r hr => by cases hr) x hx⟩
theorem ur_ (l : List Raw') (s : Int) (hs : 1 ≤ s ∧ s ≤ 20) (hl : l.length ≤ 80) (hok : ∀ x ∈ l, fl_ x) (hf : fewB l = true) : ∃ res, Told s res ∧ ∀ k, 300 ≤ k → l4_Rules.f k l s = some res := by
 obtain ⟨res, h1, h2⟩ := vr_ l s hs hl hok (fun x hx => of_decide_eq_true (List.all_eq_true.1 hf x hx)) l.length 0 [] (by omega) (Nat.le_refl _) ⟨fun r hr => (by cases hr), jt_⟩
 exact ⟨res, h1, fun k hk => h2 k (by omega)⟩
abbrev Loc5 := S44
abbrev Ent5 := S46
def wordsP : List Ent5 := [(⟨(⟨#[106, 97, 110]⟩ : BA), 1, 1⟩ : Ent5), (⟨(⟨#[102, 101, 98, 114, 117, 97, 114, 121]⟩ : BA), 1, 2⟩ : Ent5), (⟨(⟨#[109, 97, 121]⟩ : BA), 1, 5⟩ : Ent5), (⟨(⟨#[100, 101, 99]⟩ : BA), 1, 12⟩ : Ent5), (⟨(⟨#[109, 111, 110, 100, 97, 121]⟩ : BA), 2, 0⟩ : Ent5), (⟨(⟨#[102, 114, 105, 100, 97, 121]⟩ : BA), 2, 4⟩ : Ent5), (⟨(⟨#[100, 97, 121]⟩ : BA), 3, 1⟩ : Ent5), (⟨(⟨#[100, 97, 121, 115]⟩ : BA), 3, 1⟩ : Ent5), (⟨(⟨#[119, 101, 101, 107]⟩ : BA), 3, 2⟩ : Ent5), (⟨(⟨#[109, 111, 110, 116, 104, 115]⟩ : BA), 3, 3⟩ : Ent5), (⟨(⟨#[97, 103, 111]⟩ : BA), 4, (-1)⟩ : Ent5), (⟨(⟨#[104, 101, 110, 99, 101]⟩ : BA), 4, 1⟩ : Ent5), (⟨(⟨#[97, 109]⟩ : BA), 5, 0⟩ : Ent5), (⟨(⟨#[112, 109]⟩ : BA), 5, 1⟩ : Ent5), (⟨(⟨#[101, 117, 114]⟩ : BA), 6, 9782⟩ : Ent5), (⟨(⟨#[226, 130, 172]⟩ : BA), 6, 9782⟩ : Ent5), (⟨(⟨#[121, 101, 110]⟩ : BA), 6, 3920⟩ : Ent5), (⟨(⟨#[115]⟩ : BA), 7, 1⟩ : Ent5), (⟨(⟨#[109, 105, 110]⟩ : BA), 7, 60⟩ : Ent5), (⟨(⟨#[104]⟩ : BA), 7, 3600⟩ : Ent5), (⟨(⟨#[116, 111]⟩ : BA), 8, 0⟩ : Ent5), (⟨(⟨#[97]⟩ : BA), 9, 1⟩ : Ent5)]
def maiP : Ent5 := ⟨⟨#[109, 97, 105]⟩, 1, 5⟩
def or_ : Loc5 := ⟨⟨#[98, 97, 115, 101]⟩, -1, 0, wordsP, rf_, stylesP⟩
def enL (o : Int) : Loc5 := ⟨⟨#[101, 110]⟩, 0, 0, [], jh_ o, []⟩
def arL (d : Int) : Loc5 := ⟨⟨#[97, 114, 45, 49]⟩, 1, d, [maiP], [], []⟩
def wd_ : List ByteArray := [⟨#[111, 110, 101]⟩, ⟨#[120, 32, 121]⟩, ⟨#[195, 164]⟩, ⟨#[55, 117, 112]⟩, ⟨#[45]⟩]
def xL (d : Int) (s : BA) (c v : Int) (R : List S56) : Loc5 := ⟨⟨#[120]⟩, -1, d, [⟨s, c, v⟩, ⟨⟨#[116, 119, 111]⟩, 2, 2⟩], R, []⟩
def zb_ (o d : Int) : List Loc5 := [or_, enL o, arL d]
theorem words_ok : wordsP.all cd_ = true := by decide +kernel
theorem mai_ok : cd_ maiP = true := by decide +kernel
theorem two_ok : cd_ (⟨⟨#[116, 119, 111]⟩, 2, 2⟩ : Ent5) = true := by decide +kernel
theorem texts_ok : ∀ i : Fin 5, cd_ (⟨rdOf ByteArray.empty wd_ ((i : Nat) : Int), 1, 1⟩ : Ent5) = true := by decide +kernel
theorem ent_ok {s : ByteArray} {c v : Int} (h : cd_ (⟨s, 1, 1⟩ : Ent5) = true) (hc : 1 ≤ c ∧ c ≤ 49) (hv : -1000000000 ≤ v ∧ v ≤ 1000000000) : cd_ (⟨s, c, v⟩ : Ent5) = true := by
 unfold cd_ at h ⊢
 simp only [Bool.and_eq_true] at h ⊢
 refine ⟨h.1, h.2.1, h.2.2.1, h.2.2.2.1, ?_, ?_⟩
 ·unfold kb_
  rw [decide_eq_true hc.1, decide_eq_true hc.2]; rfl
 unfold kb_
 rw [decide_eq_true hv.1, decide_eq_true hv.2]
 rfl
theorem ids_ok : idP (⟨#[98, 97, 115, 101]⟩ : BA) = true ∧ idP (⟨#[101, 110]⟩ : BA) = true ∧ idP (⟨#[97, 114, 45, 49]⟩ : BA) = true ∧ idP (⟨#[120]⟩ : BA) = true := by decide +kernel
structure XOk (o d : Int) (m : List Loc5) : Prop where
 ord : 0 ≤ o ∧ o < 3
 dig : 0 ≤ d ∧ d < 4
 tail : m = [] ∨ ∃ s c v R, m = [xL d s c v R] ∧ cd_ (⟨s, 1, 1⟩ : Ent5) = true ∧ (1 ≤ c ∧ c ≤ 3) ∧ (-5 ≤ v ∧ v ≤ 94) ∧ Told 6 R
theorem cw_ (o : Int) (h : 0 ≤ o ∧ o < 3) : chkS (rf_ ++ jh_ o) = true := by
 obtain ⟨n, rfl⟩ := Int.eq_ofNat_of_zero_le h.1
 exact dates_ok ⟨n, by omega⟩
abbrev OneAt (m : List Loc5) : Prop := m = [] ∨ ∃ x, m = [x]
theorem r0 (o d : Int) (m : List Loc5) (hm : OneAt m) : vf_ (zb_ o d ++ m) 0 = rf_ ++ [] := by rcases hm with rfl | ⟨x, rfl⟩ <;> rfl
theorem r1 (o d : Int) (m : List Loc5) (hm : OneAt m) : vf_ (zb_ o d ++ m) 1 = rf_ ++ (jh_ o ++ []) := by rcases hm with rfl | ⟨x, rfl⟩ <;> rfl
theorem r2 (o d : Int) (m : List Loc5) (hm : OneAt m) : vf_ (zb_ o d ++ m) 2 = rf_ ++ (jh_ o ++ ([] ++ [])) := by rcases hm with rfl | ⟨x, rfl⟩ <;> rfl
theorem r3 (o d : Int) (d' : Int) (s : BA) (c v : Int) (R : List S56) : vf_ (zb_ o d ++ [xL d' s c v R]) 3 = R ++ [] := rfl
theorem XOk.one {o d : Int} {m : List Loc5} (h : XOk o d m) : OneAt m := by
 rcases h.tail with rfl | ⟨s, c, v, R, rfl, _⟩
 ·exact .inl rfl
 exact .inr ⟨_, rfl⟩
theorem ne_ids : ((⟨#[98, 97, 115, 101]⟩ : BA).toList == (⟨#[101, 110]⟩ : BA).toList) = false ∧ ((⟨#[98, 97, 115, 101]⟩ : BA).toList == (⟨#[97, 114, 45, 49]⟩ : BA).toList) = false ∧ ((⟨#[101, 110]⟩ : BA).toList == (⟨#[97, 114, 45, 49]⟩ : BA).toList) = false ∧ ((⟨#[98, 97, 115, 101]⟩ : BA).toList == (⟨#[120]⟩ : BA).toList) = false ∧ ((⟨#[101, 110]⟩ : BA).toList == (⟨#[120]⟩ : BA).toList) = false ∧ ((⟨#[97, 114, 45, 49]⟩ : BA).toList == (⟨#[120]⟩ : BA).toList) = false := by decide +kernel
theorem tj_ {l : List Loc5} {i : Nat} {x : Loc5} (h0 : idP x.f0 = true) (h1 : ((l.take i).any fun y => y.f0.toList == x.f0.toList) = false) (h2 : kb_ x.f1 (-1) ((i : Int) - 1) = true) (h3 : kb_ x.f2 0 3 = true) (h4 : x.f3.length ≤ 30) (h5 : x.f5.length ≤ 20) (h6 : x.f3.all cd_ = true) (h7 : x.f5.all le_ = true) (h8 : x.f4.length ≤ 60) (h9 : zc_ (vf_ l i) = true) : kf_ l i x = true := by
 unfold kf_
 rw [h0, h1, h2, h3, decide_eq_false (by omega : ¬ 30 < x.f3.length), decide_eq_false (by omega : ¬ 20 < x.f5.length), h6, h7, decide_eq_false (by omega : ¬ 60 < x.f4.length), h9]
 rfl
theorem zv_ (o : Int) : (jh_ o).length ≤ 60 := by
 unfold jh_
 simp
theorem dig_ok {d : Int} (h : 0 ≤ d ∧ d < 4) : kb_ d 0 3 = true := by
 unfold kb_
 rw [decide_eq_true h.1, decide_eq_true (by omega : d ≤ 3)]
 rfl
theorem aq_ {o d : Int} {m : List Loc5} (h : XOk o d m) : ie_ (zb_ o d ++ m) = true := by
 have hc1 := cw_ o h.ord
 have hm := h.one
 have l0 : kf_ (zb_ o d ++ m) 0 or_ = true := tj_ ids_ok.1 rfl rfl rfl (by decide) (by decide) words_ok ou_ (by decide) (by rw [r0 o d m hm, List.append_nil]; exact gj_ _ dv_)
 have l1 : kf_ (zb_ o d ++ m) 1 (enL o) = true := tj_ ids_ok.2.1 (by show (_ == _ || false) = false; rw [Bool.or_false]; exact ne_ids.1) rfl rfl (by show 0 ≤ 30; omega) (by show 0 ≤ 20; omega) rfl rfl (zv_ o) (by rw [r1 o d m hm, List.append_nil]; exact gj_ _ hc1)
 have l2 : kf_ (zb_ o d ++ m) 2 (arL d) = true := tj_ ids_ok.2.2.1 (by
  show (_ == _ || (_ == _ || false)) = false; rw [Bool.or_false, Bool.or_eq_false_iff]
  exact ⟨ne_ids.2.1, ne_ids.2.2.1⟩) rfl (dig_ok h.dig) (by show 1 ≤ 30; omega) (by show 0 ≤ 20; omega) (by show (cd_ maiP && true) = true; rw [mai_ok]; rfl) rfl (by show 0 ≤ 60; omega) (by rw [r2 o d m hm, List.append_nil, List.append_nil]; exact gj_ _ hc1)
 rcases h.tail with rfl | ⟨s, c, v, R, rfl, he, hc, hv, ht⟩
 ·show (if kf_ (zb_ o d ++ []) 0 or_ = true then (if kf_ (zb_ o d ++ []) 1 (enL o) = true then (if kf_ (zb_ o d ++ []) 2 (arL d) = true then true else false) else false) else false) = true
  rw [if_pos l0, if_pos l1, if_pos l2]
 have hck := ht.check
 have hle := (qf_ R).1 hck
 have l3 : kf_ (zb_ o d ++ [xL d s c v R]) 3 (xL d s c v R) = true := tj_ ids_ok.2.2.2 (by
  show (_ == _ || (_ == _ || (_ == _ || false))) = false; rw [Bool.or_false, Bool.or_eq_false_iff, Bool.or_eq_false_iff]
  exact ⟨ne_ids.2.2.2.1, ne_ids.2.2.2.2.1, ne_ids.2.2.2.2.2⟩) rfl (dig_ok h.dig) (by show 2 ≤ 30; omega) (by show 0 ≤ 20; omega) (by
   show (cd_ (⟨s, c, v⟩ : Ent5) && (cd_ (⟨⟨#[116, 119, 111]⟩, 2, 2⟩ : Ent5) && true)) = true; rw [two_ok, ent_ok he (by omega) (by omega)]
   rfl) rfl hle.1 (by rw [r3, List.append_nil]; exact hck)
 show (if kf_ (zb_ o d ++ [xL d s c v R]) 0 or_ = true then (if kf_ (zb_ o d ++ [xL d s c v R]) 1 (enL o) = true then (if kf_ (zb_ o d ++ [xL d s c v R]) 2 (arL d) = true then (if kf_ (zb_ o d ++ [xL d s c v R]) 3 (xL d s c v R) = true then true else false) else false) else false) else false) = true
 rw [if_pos l0, if_pos l1, if_pos l2, if_pos l3]
def okIB (n : Int) : Bool := decide (-9223372036854775808 ≤ n) && decide (n ≤ 9223372036854775807)
def entB (e : Ent5) : Bool := decide (e.f0.size ≤ 1000) && (okIB e.f1 && okIB e.f2)
def ar_ (l : List Int) : Bool := decide (l.length ≤ 1000) && l.all okIB
def wp_ (r : S56) : Bool := okIB r.f0 && (ar_ r.f1 && (okIB r.f2.f0 && (ar_ r.f2.f1 && okIB r.f3)))
def prtB (x : S48) : Bool := okIB x.f0 && (decide (x.f1.size ≤ 1000) && (okIB x.f2 && (okIB x.f3 && okIB x.f4)))
def styB (x : S52) : Bool := okIB x.f0 && (decide (x.f1.length ≤ 1000) && x.f1.all prtB)
def locB (x : Loc5) : Bool := decide (x.f0.size ≤ 1000000) && (okIB x.f1 && (okIB x.f2 && (decide (x.f3.length ≤ 1000) && (x.f3.all entB && (decide (x.f4.length ≤ 1000) && (x.f4.all wp_ && (decide (x.f5.length ≤ 1000) && x.f5.all styB)))))))
theorem ue_ {n : Int} (h : okIB n = true) : okI n := by
 unfold okIB at h
 simp only [Bool.and_eq_true, decide_eq_true_eq] at h
 exact h
theorem gu_ {α : Type} {enc : α → List Int} {b : Nat} : ∀ (l : List α), (∀ x ∈ l, (enc x).length ≤ b) → (l.flatMap enc).length ≤ b * l.length
 | [], _ => Nat.zero_le _
 | x :: l, h => by
  have h1 := h x List.mem_cons_self; have h2 := gu_ l (fun y hy => h y (List.mem_cons_of_mem _ hy)); rw [List.flatMap_cons, List.length_append, List.length_cons, Nat.mul_add]; omega
theorem uj_ {α : Type} {enc : α → List Int} {b n : Nat} (l : List α) (hl : l.length ≤ n) (h : ∀ x ∈ l, (enc x).length ≤ b) : (bb_ enc l).length ≤ 8 + b * n := by
 have h1 := gu_ l h
 have h2 : b * l.length ≤ b * n := Nat.mul_le_mul_left b hl
 unfold bb_
 rw [List.length_append, ta_]
 show 8 * 1 + _ ≤ _
 omega
theorem ju_ {e : Ent5} (h : entB e = true) : okEnt e ∧ (ent8 e).length ≤ 1024 := by
 unfold entB at h
 simp only [Bool.and_eq_true, decide_eq_true_eq] at h
 refine ⟨⟨by omega, ue_ h.2.1, ue_ h.2.2⟩, ?_⟩
 unfold ent8
 rw [List.length_append, ac_, ta_]
 show _ + 8 * 2 ≤ _
 omega
theorem zq_ {l : List Int} (h : ar_ l = true) : bp_ l ∧ (hc_ l).length ≤ 8008 := by
 unfold ar_ at h
 simp only [Bool.and_eq_true, decide_eq_true_eq, List.all_eq_true] at h
 refine ⟨⟨by omega, fun n hn => ue_ (h.2 n hn)⟩, ?_⟩
 unfold hc_
 rw [List.length_append, ta_, ta_]
 show 8 * 1 + _ ≤ _
 omega
theorem vp_ {r : S56} (h : wp_ r = true) : gs_ r ∧ (wb_ r).length ≤ 20000 := by
 unfold wp_ at h
 simp only [Bool.and_eq_true] at h
 have h1 := zq_ h.2.1
 have h2 := zq_ h.2.2.2.1
 refine ⟨⟨ue_ h.1, h1.1, ue_ h.2.2.1, h2.1, ue_ h.2.2.2.2⟩, ?_⟩
 unfold wb_
 simp only [List.length_append, ta_]
 show 8 * 1 + _ + 8 * 1 + _ + 8 * 1 ≤ _
 omega
theorem wt_ {x : S48} (h : prtB x = true) : is_ x ∧ (kc_ x).length ≤ 2000 := by
 unfold prtB at h
 simp only [Bool.and_eq_true, decide_eq_true_eq] at h
 refine ⟨⟨ue_ h.1, by omega, ue_ h.2.2.1, ue_ h.2.2.2.1, ue_ h.2.2.2.2⟩, ?_⟩
 unfold kc_
 simp only [List.length_append, ta_, ac_]
 show 8 * 1 + _ + 8 * 3 ≤ _
 omega
theorem st_ {x : S52} (h : styB x = true) : yo_ x ∧ (ib_ x).length ≤ 2000016 := by
 unfold styB at h
 simp only [Bool.and_eq_true, decide_eq_true_eq, List.all_eq_true] at h
 refine ⟨⟨ue_ h.1, by omega, fun y hy => (wt_ (h.2.2 y hy)).1⟩, ?_⟩
 have h1 := uj_ (enc := kc_) x.f1 h.2.1 (fun y hy => (wt_ (h.2.2 y hy)).2)
 unfold ib_
 rw [List.length_append, ta_]
 show 8 * 1 + _ ≤ _
 omega
theorem fp_ {x : Loc5} (h : locB x = true) : kk_ x ∧ (loc8 x).length ≤ 3000000000 ∧ x.f0.size ≤ 1000000000000 ∧ x.f4.length ≤ 1000000 := by
 unfold locB at h
 simp only [Bool.and_eq_true, decide_eq_true_eq] at h
 obtain ⟨h0, h1, h2, h3, h4, h5, h6, h7, h8⟩ := h
 rw [List.all_eq_true] at h4 h6 h8
 refine ⟨⟨by omega, ue_ h1, ue_ h2, ⟨by omega, fun y hy => (ju_ (h4 y hy)).1⟩, ⟨by omega, fun y hy => (vp_ (h6 y hy)).1⟩, ⟨by omega, fun y hy => (st_ (h8 y hy)).1⟩⟩, ?_, by omega, by omega⟩
 have e3 := uj_ (enc := ent8) x.f3 h3 (fun y hy => (ju_ (h4 y hy)).2)
 have e4 := uj_ (enc := wb_) x.f4 h5 (fun y hy => (vp_ (h6 y hy)).2)
 have e5 := uj_ (enc := ib_) x.f5 h7 (fun y hy => (st_ (h8 y hy)).2)
 unfold loc8
 simp only [List.length_append, ta_, ac_]
 show _ + 8 * 2 + _ + _ + _ ≤ _
 omega
theorem asked_le {op : Int} {n : Nat} (h : mc_ (n : Int) (rd_ op).1 (rd_ op).2 = true) : 0 ≤ op ∧ op ≤ 15 ∧ n ≤ 6 := by
 unfold mc_ at h
 rw [Bool.and_eq_true, decide_eq_true_eq, decide_eq_true_eq] at h
 revert h
 unfold rd_
 repeat' split
 all_goals (intro h; simp only at h; omega)
theorem zp_ {r : jc_} (h : zd_ r = true) : wp_ r = true := by
 have h' : mf_ r.f0 r.f1 r.f2.f0 r.f2.f1 r.f3 = true := h
 unfold mf_ at h'
 simp only [Bool.and_eq_true, List.all_eq_true] at h'
 obtain ⟨h0, h1, h2, h3, h4, h5⟩ := h'
 have ha := asked_le h4
 unfold ef_ at h0
 unfold mc_ at h1 h3
 simp only [Bool.and_eq_true, decide_eq_true_eq] at h0 h1 h3
 unfold wp_ ar_ okIB
 simp only [Bool.and_eq_true, decide_eq_true_eq, List.all_eq_true]
 refine ⟨⟨by omega, by omega⟩, ⟨by omega, fun y hy => ?_⟩, ⟨by omega, by omega⟩, ⟨by omega, fun y hy => ?_⟩, ⟨by omega, by omega⟩⟩
 ·have h := h2 y hy
  unfold cf_ at h; simp only [Bool.and_eq_true, decide_eq_true_eq] at h; exact ⟨by omega, by omega⟩
 have h := h5 y hy
 unfold ne_ at h
 simp only [Bool.and_eq_true, decide_eq_true_eq] at h
 exact ⟨by omega, by omega⟩
theorem base_B : locB or_ = true := by decide +kernel
theorem en_B : ∀ o : Fin 3, locB (enL ((o : Nat) : Int)) = true := by decide +kernel
theorem ar_B : ∀ d : Fin 4, locB (arL ((d : Nat) : Int)) = true := by decide +kernel
theorem ent_size {s : ByteArray} (h : cd_ (⟨s, 1, 1⟩ : Ent5) = true) : s.size ≤ 20 := by
 unfold cd_ at h
 rw [Bool.and_eq_true] at h
 have h := h.1
 unfold kb_ at h
 simp only [Bool.and_eq_true, decide_eq_true_eq] at h
 omega
theorem all_B {o d : Int} {m : List Loc5} (h : XOk o d m) : ∀ x ∈ zb_ o d ++ m, locB x = true := by
 intro x hx
 rcases List.mem_append.1 hx with hx | hx
 ·rcases List.mem_cons.1 hx with rfl | hx
  ·exact base_B
  rcases List.mem_cons.1 hx with rfl | hx
  ·obtain ⟨n, rfl⟩ := Int.eq_ofNat_of_zero_le h.ord.1
   exact en_B ⟨n, by have := h.ord.2; omega⟩
  rcases List.mem_cons.1 hx with rfl | hx
  ·obtain ⟨n, rfl⟩ := Int.eq_ofNat_of_zero_le h.dig.1
   exact ar_B ⟨n, by have := h.dig.2; omega⟩
  cases hx
 rcases h.tail with rfl | ⟨s, c, v, R, rfl, he, hc, hv, ht⟩
 ·cases hx
 rw [List.mem_singleton] at hx
 subst hx
 have hle := (qf_ R).1 ht.check
 have hs := ent_size he
 have hd := h.dig
 unfold locB xL entB okIB
 simp only [Bool.and_eq_true, decide_eq_true_eq, List.all_cons, List.all_nil, List.length_cons, List.length_nil]
 refine ⟨by show 1 ≤ _; omega, ⟨by omega, by omega⟩, ⟨by omega, by omega⟩, by omega, ⟨⟨by omega, ⟨by omega, by omega⟩, ⟨by omega, by omega⟩⟩, ⟨by show 3 ≤ _; omega, ⟨by omega, by omega⟩, ⟨by omega, by omega⟩⟩, trivial⟩, by omega, ?_, by omega, trivial⟩
 rw [List.all_eq_true]
 exact fun r hr => zp_ (ht.made r hr).right
theorem mk_ok8 {o d : Int} {m : List Loc5} (h : XOk o d m) : ∀ x ∈ zb_ o d ++ m, kk_ x := fun x hx => (fp_ (all_B h x hx)).1
theorem mk_okB {o d : Int} {m : List Loc5} (h : XOk o d m) : pl_ (zb_ o d ++ m) = true := by
 unfold pl_
 rw [List.all_eq_true]
 intro x hx
 have := (fp_ (all_B h x hx)).2.2
 rw [decide_eq_true this.1, decide_eq_true this.2]
 rfl
theorem ls_ {o d : Int} {m : List Loc5} (h : XOk o d m) : (zb_ o d ++ m).length ≤ 4 := by
 rcases h.tail with rfl | ⟨s, c, v, R, rfl, he, hc, hv, ht⟩
 ·show 3 ≤ 4
  omega
 show 4 ≤ 4
 omega
theorem mk_enc {o d : Int} {m : List Loc5} (h : XOk o d m) : 8 ≤ (enc8 (zb_ o d ++ m)).length ∧ (enc8 (zb_ o d ++ m)).length ≤ 20000000000 := by
 have h1 := uj_ (enc := loc8) (zb_ o d ++ m) (ls_ h) (fun x hx => (fp_ (all_B h x hx)).2.1)
 refine ⟨?_, by
  show (bb_ loc8 (zb_ o d ++ m)).length ≤ _
  omega⟩
 show 8 ≤ (bb_ loc8 (zb_ o d ++ m)).length
 unfold bb_
 rw [List.length_append, ta_]
 show 8 ≤ 8 * 1 + _
 omega
theorem eo_ {b : List Int} {l : List S44} {q : Nat} (h : hb_ (pLoc b) b 0 = some (l, q)) : decP b = if q < b.length then none else if ie_ l = true then some l else none := by
 unfold decP
 rw [h]
theorem dec_more (l : List S44) (more : List Int) (hm : more ≠ []) (hl : l.length ≤ 9223372036854775807) (h : ∀ x ∈ l, kk_ x) : decP (enc8 l ++ more) = none := by
 have hp : 0 < more.length := List.length_pos_iff.2 hm
 rw [eo_ (enc_r l more hl h), if_pos (by rw [List.length_append]; omega)]
theorem dec_enc (l : List S44) (hr : ie_ l = true) (hl : l.length ≤ 9223372036854775807) (h : ∀ x ∈ l, kk_ x) : decP (enc8 l) = some l := by
 have r := enc_r l [] hl h
 rw [List.append_nil] at r
 rw [eo_ r, if_neg (Nat.lt_irrefl _), if_pos hr]
def ik_ (b : List Int) : Bool := decide (b.length ≤ 1000000000000) && (match hb_ (pLoc b) b 0 with | some (l, _) => pl_ l | none => true)
noncomputable def blob_Decode.f (b : List Int) : Option (List S44 × Bool) := if ik_ b = true then some ((decP b).getD [], (decP b).isSome) else none
theorem blob_Decode.calls (A0 : Option Addr) (c0 : Nat) (l0 : List Int) (r1 : List S44) (r2 : Bool) (w : World) (hr0 : Kd.C (Kd.int .u8) w A0 l0.length l0) (hc0 : l0.length ≤ c0) (h : blob_Decode.f l0 = some (r1, r2)) :
  Calls Tryz.prog 15 #[.slice A0 l0.length c0] w fun e w' => ∃ v0_ : Value, e = .returned (.tuple #[v0_, .bool r2]) ∧ Kd.R k44 44 w' w.heap.size (fun k_ => w.heap.size ≤ k_) v0_ r1 ∧ Below w.heap.size w w' := by
 unfold blob_Decode.f at h
 by_cases ho : ik_ l0 = true
 ·rw [if_pos ho] at h
  have h := Option.some.inj h; simp only [Prod.mk.injEq] at h; obtain ⟨rfl, rfl⟩ := h; unfold ik_ at ho; rw [Bool.and_eq_true, decide_eq_true_eq] at ho; refine (ih_ A0 c0 l0 w hr0 hc0 ho.1 (fun l q hp => ?_)).mono ?_
  ·have h2 := ho.2
   rw [hp] at h2; exact jk_ h2
  rintro e w' ⟨v, rfl, hv, hb⟩; refine ⟨v, rfl, ?_, hb⟩
  cases hd : decP l0 with
  | none =>
   rw [hd] at hv; have hv' : v = .slice none 0 0 := hv; subst hv'
   exact Kd.R_nil _ _ _ _ _
  | some l =>
   rw [hd] at hv; exact hv
 rw [if_neg ho] at h
 cases h
theorem sp_ (o d : Int) : l5_Sample.f o d = some (zb_ (o % 3) (d % 4)) := by
 unfold l5_Sample.f
 rw [nh_ d 4 (by omega) (by omega)]
 rfl
theorem xv_ (a0 a1 a2 a3 : Int) (l : List Raw') (b : Bool) (hl : l.length ≤ 9223372036854775807) (k : Nat) (hk : l.length < k) : l5_Shape_Few.f k a0 a1 a2 a3 l b = some (fewB l && decide (l.length ≤ 12)) := by
 unfold l5_Shape_Few.f
 rw [few_some l hl k hk, Option.bind_some]
 have e : decide ((l.length : Int) ≤ 12) = decide (l.length ≤ 12) := decide_eq_decide.2 (by omega)
 rw [e]
 cases fewB l with
 | false => rfl
 | true =>
  by_cases h : l.length ≤ 12
  ·rw [decide_eq_true h, decide_eq_true (by omega : l.length ≤ 80)]; rfl
  rw [decide_eq_false h]
  split <;> rfl
theorem fr_ {b : List Int} (hok : ik_ b = true) : blob_Decode.f b = some ((decP b).getD [], (decP b).isSome) := by
 unfold blob_Decode.f
 rw [if_pos hok]
theorem mk_read {o d : Int} {m : List Loc5} (h : XOk o d m) (more : List Int) (hm : more.length ≤ 60) : ik_ (enc8 (zb_ o d ++ m) ++ more) = true := by
 have h4 := ls_ h
 have h8 := mk_ok8 h
 have hB := mk_okB h
 have hE := (mk_enc h).2
 generalize zb_ o d ++ m = L at *
 unfold ik_
 rw [enc_r L more (by omega) h8, decide_eq_true (by rw [List.length_append]; omega)]
 exact hB
theorem mk_more {o d : Int} {m : List Loc5} (h : XOk o d m) (more : List Int) (hm : more.length ≤ 60) : (blob_Decode.f (enc8 (zb_ o d ++ m) ++ more)) = some (if more = [] then (zb_ o d ++ m, true) else ([], false)) := by
 have hr := mk_read h more hm
 have h4 := ls_ h
 have h8 := mk_ok8 h
 have hR := aq_ h
 generalize zb_ o d ++ m = L at *
 rw [fr_ hr]
 by_cases he : more = []
 ·rw [if_pos he, he, List.append_nil, dec_enc L hR (by omega) h8]
  rfl
 rw [if_neg he, dec_more L more he (by omega) h8]
 rfl
end Go.Proofs.YtiocgaekoeekgaaGreat.P
end
section
namespace Go.Proofs.YtiocgaekoeekgaaGreat.P
open Go.RowKit YtiocgaekoeekgaaGreatW.PrintWords YtiocgaekoeekgaaGreatW.PrintLast YtiocgaekoeekgaaGreatW.PrintMore
attribute [local go_sem] vb_ tb_ fc_ dc_ ob_ nb_ ub_ sb_   
set_option linter.unusedVariables false
set_option linter.unusedSimpArgs false
attribute [local go_sem] Oper.semAt_some
theorem oe_ {P : Program} {md : Region.Mode} {ops : Array Oper} {Q : Exit → Act → World → Prop} {S S' : World → Prop} (hs : ∀ w, S' w → S w) : ∀ (fuel : Nat) (l : Array Bool) (a : Act) (w : World), S' w → ab_ P md ops Q S' [] fuel l a w → ab_ P md ops Q S [] fuel l a w
 | 0, _, _, _, _, h => h
 | fuel + 1, l, a, w, hw, h => ⟨h.1, fun i hi => wpOp_mono (fun a' w' h' => ⟨fun _ _ => hs _ (h'.1 (by simp) hw), oe_ hs fuel _ _ _ (h'.1 (by simp) hw) h'.2⟩) (h.2 i hi)⟩
theorem ei_ (a n : Int) (w : World) (hn : 0 < n) (hn2 : n ≤ 4611686018427387904) : Calls Tryz.prog 19 #[.int .i64 a, .int .i64 n] w fun e w' => e = .returned (.int .i64 (a % n)) ∧ Below w.heap.size w w' :=
 Calls.mono (l5_within.calls a n _ w (nh_ a n hn hn2)) (by rintro e w' ⟨rfl, hd⟩; exact ⟨rfl, hd.below⟩)
abbrev okF (w : World) (g k : Nat) : Prop := w.heap.size ≤ k ∧ k ≠ g
structure MkF (w : World) (g : Nat) (C : Array Value) (v : Value) (t : List S44) (W : World) : Prop where
 row : Kd.N k44 44 W w.heap.size (okF w g) v t
 blk : W.heap[g]? = some (.cells C 24 (0, 0))
 old : Below w.heap.size w W
theorem MkF.step {w : World} {g : Nat} {C : Array Value} {v : Value} {t : List S44} {W W' : World} (h : MkF w g C v t W) (hb : Below W.heap.size W W') : MkF w g C v t W' := ⟨Kd.N_below h.row hb, oa_ h.blk hb, ga_ h.old hb⟩
def RuF (w : World) (g : Nat) (v : Value) (A : Option Addr) (c : Nat) (res : List S56) (W : World) : Prop := Kd.F k56 W (fun k => okF w g k ∧ some k ≠ v.ownBlock) A res.length res ∧ res.length ≤ c
theorem RuF.step {w : World} {g : Nat} {v : Value} {A : Option Addr} {c : Nat} {res : List S56} {W W' : World} (h : RuF w g v A c res W) (hb : Below W.heap.size W W') : RuF w g v A c res W' := ⟨Kd.F_below h.1 hb, h.2⟩
theorem RuF.of {w : World} {g : Nat} {C : Array Value} {v : Value} {t : List S44} {W W' : World} {A : Option Addr} {c : Nat} {res : List S56} (h : MkF w g C v t W) (hN : Kd.N k56 56 W' W.heap.size (fun k => W.heap.size ≤ k) (.slice A res.length c) res) : RuF w g v A c res W' :=
 ⟨Kd.N_F (Kd.N_mono hN (fun k hk => ⟨⟨Nat.le_trans h.old.size hk, by have := eb_ h.blk; omega⟩, fun he => by have := Kd.N_lt h.row k he.symm; omega⟩)), (Kd.N_reads' hN).2.1⟩
def uq_ (t x3 xh : Int) : List S46 := [⟨rdOf ByteArray.empty wd_ t, wrap64 (1 + x3), wrap64 (xh - 5)⟩, ⟨⟨#[116, 119, 111]⟩, 2, 2⟩]
theorem LexF.of {w : World} {g : Nat} {C : Array Value} {v : Value} {t : List S44} {W W' : World} {A : Option Addr} {c n : Nat} {ys : List S46} (h : MkF w g C v t W) (ho : Kd.R k46 46 W' W.heap.size (fun _ => True) (.slice A n c) ys) : Kd.F k46 W' (fun k => okF w g k ∧ some k ≠ v.ownBlock) A ys.length ys ∧ ys.length ≤ c := by
 have h2 := Kd.R_reads' ho
 have h3 := Kd.R_F (Kd.R_mono (Kd.R_bound ho) (ok' := fun k => okF w g k ∧ some k ≠ v.ownBlock) (fun k hk => ⟨⟨Nat.le_trans h.old.size hk.2.1, by have := eb_ h.blk; have := hk.2.1; omega⟩, fun he => by have := Kd.N_lt h.row k he.symm; have := hk.2.1; omega⟩))
 rw [h2.1] at h3
 exact ⟨h3, by omega⟩
theorem tg_ (b : Nat) (t : Int) (h : 0 ≤ t ∧ t < 5) (W : World) (hb : W.heap[b]? = some (.cells #[.string (⟨#[111, 110, 101]⟩ : BA), .string (⟨#[120, 32, 121]⟩ : BA), .string (⟨#[195, 164]⟩ : BA), .string (⟨#[55, 117, 112]⟩ : BA), .string (⟨#[45]⟩ : BA)] 9 (0, 0))) : W.cell? ((⟨b, 0, none⟩ : Addr).add t.toNat) = some (.string (rdOf ByteArray.empty wd_ t)) := by
 have h5 : t = 0 ∨ t = 1 ∨ t = 2 ∨ t = 3 ∨ t = 4 := by omega
 rcases h5 with rfl | rfl | rfl | rfl | rfl
 ·exact ba_ hb 0
 ·exact ba_ hb 1
 ·exact ba_ hb 2
 ·exact ba_ hb 3
 exact ba_ hb 4
theorem ms_ (a0 a1 a2 a3 d4 t x3 xh : Int) (A4 : Option Addr) (c4 : Nat) (l : List Raw') (S : List S44) (res : List S56) (w : World) (hr : Kd.C k120 w A4 l.length l) (hc : l.length ≤ c4)
  (hS : l5_Sample.f a0 a1 = some S) (hSL : S.length = 3) (hres : l4_Rules.f 300 l 6 = some res) (h0 : a1 % 4 = d4) (h1 : a2 % 5 = t) (h2 : a3 % 3 = x3) (h3 : a3 % 100 = xh) :
  Calls Tryz.prog 13 #[.agg #[.int .i64 a0, .int .i64 a1, .int .i64 a2, .int .i64 a3, .slice A4 l.length c4, .bool true]] w fun e w' => ∃ v, e = .returned v ∧ Kd.N k44 44 w' w.heap.size (fun k => w.heap.size ≤ k) v (S ++ [⟨⟨#[120]⟩, -1, d4, uq_ t x3 xh, res, []⟩]) ∧ Below w.heap.size w w' := by
 have HW0 : Az (∀ W, Calls Tryz.prog 19 #[.int .i64 a1, .int .i64 4] W fun e w' => e = .returned (.int .i64 d4) ∧ Below W.heap.size W w') := ⟨fun W => h0 ▸ ei_ a1 4 W (by omega) (by omega)⟩
 have HW1 : Az (∀ W, Calls Tryz.prog 19 #[.int .i64 a2, .int .i64 5] W fun e w' => e = .returned (.int .i64 t) ∧ Below W.heap.size W w') := ⟨fun W => h1 ▸ ei_ a2 5 W (by omega) (by omega)⟩
 have HW2 : Az (∀ W, Calls Tryz.prog 19 #[.int .i64 a3, .int .i64 3] W fun e w' => e = .returned (.int .i64 x3) ∧ Below W.heap.size W w') := ⟨fun W => h2 ▸ ei_ a3 3 W (by omega) (by omega)⟩
 have HW3 : Az (∀ W, Calls Tryz.prog 19 #[.int .i64 a3, .int .i64 100] W fun e w' => e = .returned (.int .i64 xh) ∧ Below W.heap.size W w') := ⟨fun W => h3 ▸ ei_ a3 100 W (by omega) (by omega)⟩
 have HTB : Az (0 ≤ t ∧ t < 5) := ⟨by omega⟩
 have ht0 : 0 ≤ t := HTB.out.1
 have ht5 : t < 5 := HTB.out.2
 have HC := aM_ hr
 have HLC := aM_ hc
 have HRES := aM_ hres
 have HSS := aM_ hS
 have HSL := aM_ hSL
 have hu1 := Tryz.underlying24
 have hu2 := Tryz.underlying46
 have hu3 := Tryz.underlying44
 clear hr hc hS hSL hres h0 h1 h2 h3
 have HBK : Az ((w.alloc (.cells #[.int .i64 a0, .int .i64 a1, .int .i64 a2, .int .i64 a3, .slice A4 l.length c4, .bool true] 24)).heap[w.heap.size]? = some (.cells #[.int .i64 a0, .int .i64 a1, .int .i64 a2, .int .i64 a3, .slice A4 l.length c4, .bool true] 24 (0, 0))) := ⟨ra_ w _⟩
 have HB1 : Az (Below w.heap.size w (w.alloc (.cells #[.int .i64 a0, .int .i64 a1, .int .i64 a2, .int .i64 a3, .slice A4 l.length c4, .bool true] 24))) := ⟨aa_ (Below.refl _ _) _⟩
 go_enter Tryz.func13, Tryz.ntmps13
 go_wp2_with fail
 generalize w.alloc (.cells #[.int .i64 a0, .int .i64 a1, .int .i64 a2, .int .i64 a3, .slice A4 l.length c4, .bool true] 24) = W1 at *
 generalize hgg : w.heap.size = g at *
 have hc0 : W1.cell? ⟨g, 0, none⟩ = some (.int .i64 a0) := ba_ HBK.out 0
 have hc1 : W1.cell? ⟨g, 1, none⟩ = some (.int .i64 a1) := ba_ HBK.out 1
 go_wp2_with fail
 have HGG := aM_ hgg
 clear hgg
 refine (l5_Sample.calls a0 a1 S W1 HSS.out).mono ?_
 rintro e W2 ⟨vs, rfl, hN, hb⟩
 obtain ⟨As, cs, hvs⟩ := Kd.N_slice hN
 subst hvs
 have hBw : Below w.heap.size w W1 := by rw [HGG.out]; exact HB1.out
 have hgW := eb_ HBK.out
 have HF : Az (MkF w g #[.int .i64 a0, .int .i64 a1, .int .i64 a2, .int .i64 a3, .slice A4 l.length c4, .bool true] (.slice As S.length cs) S W2) := ⟨⟨Kd.N_mono (Kd.N_lower hN hBw.size) (fun k hk => ⟨Nat.le_trans hBw.size hk, by omega⟩), oa_ HBK.out hb, ga_ hBw hb⟩⟩
 clear hBw hgW
 have hc5 : W2.cell? ⟨g, 5, none⟩ = some (.bool true) := ba_ HF.out.blk 5
 clear hN hb HBK HB1 hc0 hc1
 go_wp2_with fail
 generalize W2 = W5 at *
 refine yd_ (n := 28) (S := fun w' => w'.heap[g]? = some (.cells #[.int .i64 a0, .int .i64 a1, .int .i64 a2, .int .i64 a3, .slice A4 l.length c4, .bool true] 24 (0, 0)) ∧ w'.heap[g]? = some (.cells #[.int .i64 a0, .int .i64 a1, .int .i64 a2, .int .i64 a3, .slice A4 l.length c4, .bool true] 24 (0, 0))) (ds := []) (f_ 28 0) (by kernel_rfl) rfl rfl ⟨HF.out.blk, HF.out.blk⟩ (fun hHeld => ?_)
 replace HF := aM_ (MkF.step HF.out (fa_ (Below.refl W5.heap.size W5)))
 generalize W5.drew = W9 at *
 refine pU_ 0 11 ?_ (f_ 28 1) rfl rfl (by kernel_rfl) (fun _ _ _ h => h) (by rfl) ?_ ?_ ?_ ?_
 rotate_left
 ·intro w'
  go_simp; try with_reducible rfl
 rotate_left
 ·simp only [Act.put, s1_, s2_, s3_, ia_, ja_]
  rfl
 refine pU_ 1 12 ?_ (f_ 28 2) rfl rfl (by kernel_rfl) (fun _ _ _ h => h) (by rfl) ?_ ?_ ?_ ?_
 rotate_left
 ·intro w'
  go_simp; try with_reducible rfl
 rotate_left
 ·simp only [Act.put, s1_, s2_, s3_, ia_, ja_]
  rfl
 refine tA_ 2 13 ?_ (f_ 28 3) rfl rfl (by kernel_rfl) (fun _ _ _ h => h) (by rfl) ?_ hHeld ?_ ?_ ?_
 rotate_left
 ·rintro w' ⟨s0, s1⟩
  have c0 := ba_ s0 0; have c1 := ba_ s0 1; have c2 := ba_ s0 2; have c3 := ba_ s0 3; have c4 := ba_ s0 4; go_simp; try with_reducible rfl
 rotate_left
 ·simp only [Act.put, s1_, s2_, s3_, ia_, ja_]
  rfl
 refine pU_ 4 15 ?_ #[true, true, true, false, true, false, false, false, false, false, false, false, false, false, false, false, false, false, false, false, false, false, false, false, false, false, false, false] rfl rfl (by kernel_rfl) (fun _ _ _ h => h) (by rfl) ?_ ?_ ?_ ?_
 rotate_left
 ·intro w'
  go_simp; try with_reducible rfl
 rotate_left
 ·simp only [Act.put, s1_, s2_, s3_, ia_, ja_]
  rfl
 refine tA_ 5 16 ?_ #[true, true, true, false, true, true, false, false, false, false, false, false, false, false, false, false, false, false, false, false, false, false, false, false, false, false, false, false] rfl rfl (by kernel_rfl) (fun _ _ _ h => h) (by rfl) ?_ hHeld ?_ ?_ ?_
 rotate_left
 ·rintro w' ⟨s0, s1⟩
  have c0 := ba_ s0 0; have c1 := ba_ s0 1; have c2 := ba_ s0 2; have c3 := ba_ s0 3; have c4 := ba_ s0 4; go_simp; try with_reducible rfl
 rotate_left
 ·simp only [Act.put, s1_, s2_, s3_, ia_, ja_]
  rfl
 refine pU_ 8 19 ?_ #[true, true, true, false, true, true, false, false, true, false, false, false, false, false, false, false, false, false, false, false, false, false, false, false, false, false, false, false] rfl rfl (by kernel_rfl) (fun _ _ _ h => h) (by rfl) ?_ ?_ ?_ ?_
 rotate_left
 ·intro w'
  go_simp; try with_reducible rfl
 rotate_left
 ·simp only [Act.put, s1_, s2_, s3_, ia_, ja_]
  rfl
 refine tA_ 9 20 ?_ #[true, true, true, false, true, true, false, false, true, true, false, false, false, false, false, false, false, false, false, false, false, false, false, false, false, false, false, false] rfl rfl (by kernel_rfl) (fun _ _ _ h => h) (by rfl) ?_ hHeld ?_ ?_ ?_
 rotate_left
 ·rintro w' ⟨s0, s1⟩
  have c0 := ba_ s0 0; have c1 := ba_ s0 1; have c2 := ba_ s0 2; have c3 := ba_ s0 3; have c4 := ba_ s0 4; go_simp; try with_reducible rfl
 rotate_left
 ·simp only [Act.put, s1_, s2_, s3_, ia_, ja_]
  rfl
 refine pU_ 13 24 ?_ #[true, true, true, false, true, true, false, false, true, true, false, false, false, true, false, false, false, false, false, false, false, false, false, false, false, false, false, false] rfl rfl (by kernel_rfl) (fun _ _ _ h => h) (by rfl) ?_ ?_ ?_ ?_
 rotate_left
 ·intro w'
  go_simp; try with_reducible rfl
 rotate_left
 ·simp only [Act.put, s1_, s2_, s3_, ia_, ja_]
  rfl
 refine tA_ 14 25 ?_ #[true, true, true, false, true, true, false, false, true, true, false, false, false, true, true, false, false, false, false, false, false, false, false, false, false, false, false, false] rfl rfl (by kernel_rfl) (fun _ _ _ h => h) (by rfl) ?_ hHeld ?_ ?_ ?_
 rotate_left
 ·rintro w' ⟨s0, s1⟩
  have c0 := ba_ s0 0; have c1 := ba_ s0 1; have c2 := ba_ s0 2; have c3 := ba_ s0 3; have c4 := ba_ s0 4; go_simp; try with_reducible rfl
 rotate_left
 ·simp only [Act.put, s1_, s2_, s3_, ia_, ja_]
  rfl
 refine pU_ 17 28 ?_ #[true, true, true, false, true, true, false, false, true, true, false, false, false, true, true, false, false, true, false, false, false, false, false, false, false, false, false, false] rfl rfl (by kernel_rfl) (fun _ _ _ h => h) (by rfl) ?_ ?_ ?_ ?_
 rotate_left
 ·intro w'
  go_simp; try with_reducible rfl
 rotate_left
 ·simp only [Act.put, s1_, s2_, s3_, ia_, ja_]
  rfl
 refine tA_ 18 29 ?_ #[true, true, true, false, true, true, false, false, true, true, false, false, false, true, true, false, false, true, true, false, false, false, false, false, false, false, false, false] rfl rfl (by kernel_rfl) (fun _ _ _ h => h) (by rfl) ?_ hHeld ?_ ?_ ?_
 rotate_left
 ·rintro w' ⟨s0, s1⟩
  have c0 := ba_ s0 0; have c1 := ba_ s0 1; have c2 := ba_ s0 2; have c3 := ba_ s0 3; have c4 := ba_ s0 4; go_simp; try with_reducible rfl
 rotate_left
 ·simp only [Act.put, s1_, s2_, s3_, ia_, ja_]
  rfl
 refine pU_ 22 33 ?_ #[true, true, true, false, true, true, false, false, true, true, false, false, false, true, true, false, false, true, true, false, false, false, true, false, false, false, false, false] rfl rfl (by kernel_rfl) (fun _ _ _ h => h) (by rfl) ?_ ?_ ?_ ?_
 rotate_left
 ·intro w'
  go_simp; try with_reducible rfl
 rotate_left
 ·simp only [Act.put, s1_, s2_, s3_, ia_, ja_]
  rfl
 focus
  refine two_ (i := 3) (j := 7) (Ni := some 14) (Nj := some 18) #[true, true, true, true, true, true, false, false, true, true, false, false, false, true, true, false, false, true, true, false, false, false, true, false, false, false, false, false] #[true, true, true, false, true, true, false, true, true, true, false, false, false, true, true, false, false, true, true, false, false, false, true, false, false, false, false, false] rfl rfl rfl rfl (by kernel_rfl) (by decide) (by decide) (fun K hK => ?_) (fun K hK => ?_); rotate_left
  focus
   refine ad_ (w1 := ?_) (v := ?_) (by rfl) rfl ?_ ?_; rotate_left 2
   ·go_simp
    constructor
    ·rfl
    rfl
   have HT := aM_ (ra_ W9 (.cells #[.string (⟨#[111, 110, 101]⟩ : BA), .string (⟨#[120, 32, 121]⟩ : BA), .string (⟨#[195, 164]⟩ : BA), .string (⟨#[55, 117, 112]⟩ : BA), .string (⟨#[45]⟩ : BA)] 9)); replace HF := aM_ (MkF.step HF.out (aa_ (Below.refl W9.heap.size W9) (.cells #[.string (⟨#[111, 110, 101]⟩ : BA), .string (⟨#[120, 32, 121]⟩ : BA), .string (⟨#[195, 164]⟩ : BA), .string (⟨#[55, 117, 112]⟩ : BA), .string (⟨#[45]⟩ : BA)] 9))); refine hK.out _ _ ⟨HF.out.blk, HF.out.blk⟩ (fun hHeld => ?_); clear hK K hHeld; refine wa_ (a' := ?_) ?_ ?_; rotate_left
   ·show Act.put _ (some 18) _ = _
    simp only [Act.put, s1_, s2_, s3_, ia_, ja_]; rfl
   generalize W9.alloc (.cells #[.string (⟨#[111, 110, 101]⟩ : BA), .string (⟨#[120, 32, 121]⟩ : BA), .string (⟨#[195, 164]⟩ : BA), .string (⟨#[55, 117, 112]⟩ : BA), .string (⟨#[45]⟩ : BA)] 9) = W8 at *; generalize hbn : W9.heap.size = b at *; have HSC := tg_ b t HTB.out; generalize (⟨b, 0, none⟩ : Addr) = ad at *; have hHeld : W8.heap[g]? = some (.cells #[.int .i64 a0, .int .i64 a1, .int .i64 a2, .int .i64 a3, .slice A4 l.length c4, .bool true] 24 (0, 0)) ∧ W8.cell? (ad.add t.toNat) = some (.string (rdOf ByteArray.empty wd_ t)) := ⟨HF.out.blk, HSC _ HT.out⟩; refine oe_ (S' := fun w' => w'.heap[g]? = some (.cells #[.int .i64 a0, .int .i64 a1, .int .i64 a2, .int .i64 a3, .slice A4 l.length c4, .bool true] 24 (0, 0)) ∧ w'.cell? (ad.add t.toNat) = some (.string (rdOf ByteArray.empty wd_ t))) (fun _ h => ⟨h.1, h.1⟩) _ _ _ _ hHeld ?_; clear hbn
  rotate_left
  focus
   refine xb_ Tryz.func19 (by kernel_rfl) rfl #[.int .i64 a1, .int .i64 4] (by rfl) rfl rfl (by (try simp only [List.map_toArray, List.map_cons, List.map_nil]); rfl) ?_
   refine (HW0.out _).mono ?_; rintro e W9 ⟨rfl, hb⟩; replace HF := aM_ (MkF.step HF.out hb); clear hb; refine ⟨_, rfl, ?_⟩; refine hK.out _ _ ⟨HF.out.blk, HF.out.blk⟩ (fun hHeld => ?_); clear hK K; refine wa_ (a' := ?_) ?_ ?_; rotate_left; show Act.put _ (some 14) _ = _; simp only [Act.put, s1_, s2_, s3_, ia_, ja_]; rfl
 all_goals try
  refine one_ (i := 3) (N := some 14) #[true, true, true, true, true, true, false, true, true, true, false, false, false, true, true, false, false, true, true, false, false, false, true, false, false, false, false, false] rfl rfl (by kernel_rfl) (by decide) (fun K hK => ?_); refine xb_ Tryz.func19 (by kernel_rfl) rfl #[.int .i64 a1, .int .i64 4] (by rfl) rfl rfl (by (try simp only [List.map_toArray, List.map_cons, List.map_nil]); rfl) ?_
  refine (HW0.out _).mono ?_; rintro e W9 ⟨rfl, hb⟩; replace HF := aM_ (MkF.step HF.out hb); replace HT := aM_ (oa_ HT.out hb); clear hb; refine ⟨_, rfl, ?_⟩; refine hK.out _ _ ⟨HF.out.blk, HSC _ HT.out⟩ (fun hHeld => ?_); clear hK K; refine wa_ (a' := ?_) ?_ ?_; rotate_left; show Act.put _ (some 14) _ = _; simp only [Act.put, s1_, s2_, s3_, ia_, ja_]; rfl
 focus
  refine two_ (i := 6) (j := 7) (Ni := some 17) (Nj := some 18) #[true, true, true, true, true, true, true, false, true, true, false, false, false, true, true, false, false, true, true, false, false, false, true, false, false, false, false, false] #[true, true, true, true, true, true, false, true, true, true, false, false, false, true, true, false, false, true, true, false, false, false, true, false, false, false, false, false] rfl rfl rfl rfl (by kernel_rfl) (by decide) (by decide) (fun K hK => ?_) (fun K hK => ?_); rotate_left
  focus
   refine ad_ (w1 := ?_) (v := ?_) (by rfl) rfl ?_ ?_; rotate_left 2
   ·go_simp
    constructor
    ·rfl
    rfl
   have HT := aM_ (ra_ W9 (.cells #[.string (⟨#[111, 110, 101]⟩ : BA), .string (⟨#[120, 32, 121]⟩ : BA), .string (⟨#[195, 164]⟩ : BA), .string (⟨#[55, 117, 112]⟩ : BA), .string (⟨#[45]⟩ : BA)] 9)); replace HF := aM_ (MkF.step HF.out (aa_ (Below.refl W9.heap.size W9) (.cells #[.string (⟨#[111, 110, 101]⟩ : BA), .string (⟨#[120, 32, 121]⟩ : BA), .string (⟨#[195, 164]⟩ : BA), .string (⟨#[55, 117, 112]⟩ : BA), .string (⟨#[45]⟩ : BA)] 9))); refine hK.out _ _ ⟨HF.out.blk, HF.out.blk⟩ (fun hHeld => ?_); clear hK K hHeld; refine wa_ (a' := ?_) ?_ ?_; rotate_left
   ·show Act.put _ (some 18) _ = _
    simp only [Act.put, s1_, s2_, s3_, ia_, ja_]; rfl
   generalize W9.alloc (.cells #[.string (⟨#[111, 110, 101]⟩ : BA), .string (⟨#[120, 32, 121]⟩ : BA), .string (⟨#[195, 164]⟩ : BA), .string (⟨#[55, 117, 112]⟩ : BA), .string (⟨#[45]⟩ : BA)] 9) = W8 at *; generalize hbn : W9.heap.size = b at *; have HSC := tg_ b t HTB.out; generalize (⟨b, 0, none⟩ : Addr) = ad at *; have hHeld : W8.heap[g]? = some (.cells #[.int .i64 a0, .int .i64 a1, .int .i64 a2, .int .i64 a3, .slice A4 l.length c4, .bool true] 24 (0, 0)) ∧ W8.cell? (ad.add t.toNat) = some (.string (rdOf ByteArray.empty wd_ t)) := ⟨HF.out.blk, HSC _ HT.out⟩; refine oe_ (S' := fun w' => w'.heap[g]? = some (.cells #[.int .i64 a0, .int .i64 a1, .int .i64 a2, .int .i64 a3, .slice A4 l.length c4, .bool true] 24 (0, 0)) ∧ w'.cell? (ad.add t.toNat) = some (.string (rdOf ByteArray.empty wd_ t))) (fun _ h => ⟨h.1, h.1⟩) _ _ _ _ hHeld ?_; clear hbn
  rotate_left
  focus
   refine xb_ Tryz.func32 (by kernel_rfl) rfl #[.slice A4 l.length c4, .int .i64 6] (by rfl) rfl rfl (by (try simp only [List.map_toArray, List.map_cons, List.map_nil]); rfl) ?_
   refine (l4_Rules.calls 300 A4 c4 l 6 res _ (Kd.C_below HC.out HF.out.old) HLC.out HRES.out).mono ?_; rintro e W9 ⟨vr, rfl, hN, hb⟩; obtain ⟨A7, c7, hvr⟩ := Kd.N_slice hN; subst hvr; have HU := aM_ (RuF.of HF.out hN); clear hN; replace HF := aM_ (MkF.step HF.out hb); clear hb; refine ⟨_, rfl, ?_⟩; refine hK.out _ _ ⟨HF.out.blk, HF.out.blk⟩ (fun hHeld => ?_); clear hK K; refine wa_ (a' := ?_) ?_ ?_; rotate_left; show Act.put _ (some 17) _ = _; simp only [Act.put, s1_, s2_, s3_, ia_, ja_]; rfl
 all_goals try
  refine one_ (i := 6) (N := some 17) #[true, true, true, true, true, true, true, true, true, true, false, false, false, true, true, false, false, true, true, false, false, false, true, false, false, false, false, false] rfl rfl (by kernel_rfl) (by decide) (fun K hK => ?_); refine xb_ Tryz.func32 (by kernel_rfl) rfl #[.slice A4 l.length c4, .int .i64 6] (by rfl) rfl rfl (by (try simp only [List.map_toArray, List.map_cons, List.map_nil]); rfl) ?_
  refine (l4_Rules.calls 300 A4 c4 l 6 res _ (Kd.C_below HC.out HF.out.old) HLC.out HRES.out).mono ?_; rintro e W9 ⟨vr, rfl, hN, hb⟩; obtain ⟨A7, c7, hvr⟩ := Kd.N_slice hN; subst hvr; have HU := aM_ (RuF.of HF.out hN); clear hN; replace HF := aM_ (MkF.step HF.out hb); replace HT := aM_ (oa_ HT.out hb); clear hb; refine ⟨_, rfl, ?_⟩; refine hK.out _ _ ⟨HF.out.blk, HSC _ HT.out⟩ (fun hHeld => ?_); clear hK K; refine wa_ (a' := ?_) ?_ ?_; rotate_left; show Act.put _ (some 17) _ = _; simp only [Act.put, s1_, s2_, s3_, ia_, ja_]; rfl
 focus
  refine two_ (i := 7) (j := 10) (Ni := some 18) (Nj := some 21) #[true, true, true, true, true, true, true, true, true, true, false, false, false, true, true, false, false, true, true, false, false, false, true, false, false, false, false, false] #[true, true, true, true, true, true, true, false, true, true, true, false, false, true, true, false, false, true, true, false, false, false, true, false, false, false, false, false] rfl rfl rfl rfl (by kernel_rfl) (by decide) (by decide) (fun K hK => ?_) (fun K hK => ?_)
  focus
   refine ad_ (w1 := ?_) (v := ?_) (by rfl) rfl ?_ ?_; rotate_left 2
   ·go_simp
    constructor
    ·rfl
    rfl
   have HT := aM_ (ra_ W9 (.cells #[.string (⟨#[111, 110, 101]⟩ : BA), .string (⟨#[120, 32, 121]⟩ : BA), .string (⟨#[195, 164]⟩ : BA), .string (⟨#[55, 117, 112]⟩ : BA), .string (⟨#[45]⟩ : BA)] 9)); replace HF := aM_ (MkF.step HF.out (aa_ (Below.refl W9.heap.size W9) (.cells #[.string (⟨#[111, 110, 101]⟩ : BA), .string (⟨#[120, 32, 121]⟩ : BA), .string (⟨#[195, 164]⟩ : BA), .string (⟨#[55, 117, 112]⟩ : BA), .string (⟨#[45]⟩ : BA)] 9))); replace HU := aM_ (RuF.step HU.out (aa_ (Below.refl W9.heap.size W9) (.cells #[.string (⟨#[111, 110, 101]⟩ : BA), .string (⟨#[120, 32, 121]⟩ : BA), .string (⟨#[195, 164]⟩ : BA), .string (⟨#[55, 117, 112]⟩ : BA), .string (⟨#[45]⟩ : BA)] 9))); refine hK.out _ _ ⟨HF.out.blk, HF.out.blk⟩ (fun hHeld => ?_); clear hK K hHeld; refine wa_ (a' := ?_) ?_ ?_; rotate_left
   ·show Act.put _ (some 18) _ = _
    simp only [Act.put, s1_, s2_, s3_, ia_, ja_]; rfl
   generalize W9.alloc (.cells #[.string (⟨#[111, 110, 101]⟩ : BA), .string (⟨#[120, 32, 121]⟩ : BA), .string (⟨#[195, 164]⟩ : BA), .string (⟨#[55, 117, 112]⟩ : BA), .string (⟨#[45]⟩ : BA)] 9) = W8 at *; generalize hbn : W9.heap.size = b at *; have HSC := tg_ b t HTB.out; generalize (⟨b, 0, none⟩ : Addr) = ad at *; have hHeld : W8.heap[g]? = some (.cells #[.int .i64 a0, .int .i64 a1, .int .i64 a2, .int .i64 a3, .slice A4 l.length c4, .bool true] 24 (0, 0)) ∧ W8.cell? (ad.add t.toNat) = some (.string (rdOf ByteArray.empty wd_ t)) := ⟨HF.out.blk, HSC _ HT.out⟩; refine oe_ (S' := fun w' => w'.heap[g]? = some (.cells #[.int .i64 a0, .int .i64 a1, .int .i64 a2, .int .i64 a3, .slice A4 l.length c4, .bool true] 24 (0, 0)) ∧ w'.cell? (ad.add t.toNat) = some (.string (rdOf ByteArray.empty wd_ t))) (fun _ h => ⟨h.1, h.1⟩) _ _ _ _ hHeld ?_; clear hbn
  rotate_left
  focus
   refine xb_ Tryz.func19 (by kernel_rfl) rfl #[.int .i64 a2, .int .i64 5] (by rfl) rfl rfl (by (try simp only [List.map_toArray, List.map_cons, List.map_nil]); rfl) ?_
   refine (HW1.out _).mono ?_; rintro e W9 ⟨rfl, hb⟩; replace HU := aM_ (RuF.step HU.out hb); replace HF := aM_ (MkF.step HF.out hb); clear hb; refine ⟨_, rfl, ?_⟩; refine hK.out _ _ ⟨HF.out.blk, HF.out.blk⟩ (fun hHeld => ?_); clear hK K; refine wa_ (a' := ?_) ?_ ?_; rotate_left; show Act.put _ (some 21) _ = _; simp only [Act.put, s1_, s2_, s3_, ia_, ja_]; rfl
 all_goals try
  refine one_ (i := 10) (N := some 21) #[true, true, true, true, true, true, true, true, true, true, true, false, false, true, true, false, false, true, true, false, false, false, true, false, false, false, false, false] rfl rfl (by kernel_rfl) (by decide) (fun K hK => ?_); refine xb_ Tryz.func19 (by kernel_rfl) rfl #[.int .i64 a2, .int .i64 5] (by rfl) rfl rfl (by (try simp only [List.map_toArray, List.map_cons, List.map_nil]); rfl) ?_
  refine (HW1.out _).mono ?_; rintro e W9 ⟨rfl, hb⟩; replace HU := aM_ (RuF.step HU.out hb); replace HF := aM_ (MkF.step HF.out hb); replace HT := aM_ (oa_ HT.out hb); clear hb; refine ⟨_, rfl, ?_⟩; refine hK.out _ _ ⟨HF.out.blk, HSC _ HT.out⟩ (fun hHeld => ?_); clear hK K; refine wa_ (a' := ?_) ?_ ?_; rotate_left
  ·show Act.put _ (some 21) _ = _
   simp only [Act.put, s1_, s2_, s3_, ia_, ja_]; rfl
  refine pU_ 11 22 ?_ #[true, true, true, true, true, true, true, true, true, true, true, true, false, true, true, false, false, true, true, false, false, false, true, false, false, false, false, false] rfl rfl (by kernel_rfl) (fun _ _ _ h => h) (by rfl) ?_ ?_ ?_ ?_; rotate_left
  ·intro w'
   go_simp; try with_reducible rfl
  rotate_left
  ·simp only [Act.put, s1_, s2_, s3_, ia_, ja_]
   rfl
  refine tA_ 12 23 ?_ #[true, true, true, true, true, true, true, true, true, true, true, true, true, true, true, false, false, true, true, false, false, false, true, false, false, false, false, false] rfl rfl (by kernel_rfl) (fun _ _ _ h => h) (by rfl) ?_ hHeld ?_ ?_ ?_; rotate_left
  ·rintro w' ⟨s0, s1⟩
   go_simp; try with_reducible rfl
  rotate_left; simp only [Act.put, s1_, s2_, s3_, ia_, ja_]; rfl
 focus
  refine two_ (i := 7) (j := 15) (Ni := some 18) (Nj := some 26) #[true, true, true, true, true, true, true, true, true, true, true, false, false, true, true, false, false, true, true, false, false, false, true, false, false, false, false, false] #[true, true, true, true, true, true, true, false, true, true, true, false, false, true, true, true, false, true, true, false, false, false, true, false, false, false, false, false] rfl rfl rfl rfl (by kernel_rfl) (by decide) (by decide) (fun K hK => ?_) (fun K hK => ?_)
  focus
   refine ad_ (w1 := ?_) (v := ?_) (by rfl) rfl ?_ ?_; rotate_left 2
   ·go_simp
    constructor
    ·rfl
    rfl
   have HT := aM_ (ra_ W9 (.cells #[.string (⟨#[111, 110, 101]⟩ : BA), .string (⟨#[120, 32, 121]⟩ : BA), .string (⟨#[195, 164]⟩ : BA), .string (⟨#[55, 117, 112]⟩ : BA), .string (⟨#[45]⟩ : BA)] 9)); replace HF := aM_ (MkF.step HF.out (aa_ (Below.refl W9.heap.size W9) (.cells #[.string (⟨#[111, 110, 101]⟩ : BA), .string (⟨#[120, 32, 121]⟩ : BA), .string (⟨#[195, 164]⟩ : BA), .string (⟨#[55, 117, 112]⟩ : BA), .string (⟨#[45]⟩ : BA)] 9))); replace HU := aM_ (RuF.step HU.out (aa_ (Below.refl W9.heap.size W9) (.cells #[.string (⟨#[111, 110, 101]⟩ : BA), .string (⟨#[120, 32, 121]⟩ : BA), .string (⟨#[195, 164]⟩ : BA), .string (⟨#[55, 117, 112]⟩ : BA), .string (⟨#[45]⟩ : BA)] 9))); refine hK.out _ _ ⟨HF.out.blk, HF.out.blk⟩ (fun hHeld => ?_); clear hK K hHeld; refine wa_ (a' := ?_) ?_ ?_; rotate_left
   ·show Act.put _ (some 18) _ = _
    simp only [Act.put, s1_, s2_, s3_, ia_, ja_]; rfl
   generalize W9.alloc (.cells #[.string (⟨#[111, 110, 101]⟩ : BA), .string (⟨#[120, 32, 121]⟩ : BA), .string (⟨#[195, 164]⟩ : BA), .string (⟨#[55, 117, 112]⟩ : BA), .string (⟨#[45]⟩ : BA)] 9) = W8 at *; generalize hbn : W9.heap.size = b at *; have HSC := tg_ b t HTB.out; generalize (⟨b, 0, none⟩ : Addr) = ad at *; have hHeld : W8.heap[g]? = some (.cells #[.int .i64 a0, .int .i64 a1, .int .i64 a2, .int .i64 a3, .slice A4 l.length c4, .bool true] 24 (0, 0)) ∧ W8.cell? (ad.add t.toNat) = some (.string (rdOf ByteArray.empty wd_ t)) := ⟨HF.out.blk, HSC _ HT.out⟩; refine oe_ (S' := fun w' => w'.heap[g]? = some (.cells #[.int .i64 a0, .int .i64 a1, .int .i64 a2, .int .i64 a3, .slice A4 l.length c4, .bool true] 24 (0, 0)) ∧ w'.cell? (ad.add t.toNat) = some (.string (rdOf ByteArray.empty wd_ t))) (fun _ h => ⟨h.1, h.1⟩) _ _ _ _ hHeld ?_; clear hbn; refine pU_ 11 22 ?_ #[true, true, true, true, true, true, true, true, true, true, true, true, false, true, true, false, false, true, true, false, false, false, true, false, false, false, false, false] rfl rfl (by kernel_rfl) (fun _ _ _ h => h) (by rfl) ?_ ?_ ?_ ?_; rotate_left
   ·intro w'
    go_simp; try with_reducible rfl
   rotate_left
   ·simp only [Act.put, s1_, s2_, s3_, ia_, ja_]
    rfl
   refine tA_ 12 23 ?_ #[true, true, true, true, true, true, true, true, true, true, true, true, true, true, true, false, false, true, true, false, false, false, true, false, false, false, false, false] rfl rfl (by kernel_rfl) (fun _ _ _ h => h) (by rfl) ?_ hHeld ?_ ?_ ?_; rotate_left
   ·rintro w' ⟨s0, s1⟩
    go_simp; try with_reducible rfl
   rotate_left; simp only [Act.put, s1_, s2_, s3_, ia_, ja_]; rfl
  rotate_left
  focus
   refine xb_ Tryz.func19 (by kernel_rfl) rfl #[.int .i64 a3, .int .i64 3] (by rfl) rfl rfl (by (try simp only [List.map_toArray, List.map_cons, List.map_nil]); rfl) ?_
   refine (HW2.out _).mono ?_; rintro e W9 ⟨rfl, hb⟩; replace HU := aM_ (RuF.step HU.out hb); replace HF := aM_ (MkF.step HF.out hb); clear hb; refine ⟨_, rfl, ?_⟩; refine hK.out _ _ ⟨HF.out.blk, HF.out.blk⟩ (fun hHeld => ?_); clear hK K; refine wa_ (a' := ?_) ?_ ?_; rotate_left
   ·show Act.put _ (some 26) _ = _
    simp only [Act.put, s1_, s2_, s3_, ia_, ja_]; rfl
   refine pU_ 16 27 ?_ #[true, true, true, true, true, true, true, false, true, true, true, false, false, true, true, true, true, true, true, false, false, false, true, false, false, false, false, false] rfl rfl (by kernel_rfl) (fun _ _ _ h => h) (by rfl) ?_ ?_ ?_ ?_; rotate_left
   ·intro w'
    go_simp; try with_reducible rfl
   rotate_left; simp only [Act.put, s1_, s2_, s3_, ia_, ja_]; rfl
 all_goals try
  refine one_ (i := 15) (N := some 26) #[true, true, true, true, true, true, true, true, true, true, true, true, true, true, true, true, false, true, true, false, false, false, true, false, false, false, false, false] rfl rfl (by kernel_rfl) (by decide) (fun K hK => ?_); refine xb_ Tryz.func19 (by kernel_rfl) rfl #[.int .i64 a3, .int .i64 3] (by rfl) rfl rfl (by (try simp only [List.map_toArray, List.map_cons, List.map_nil]); rfl) ?_
  refine (HW2.out _).mono ?_; rintro e W9 ⟨rfl, hb⟩; replace HU := aM_ (RuF.step HU.out hb); replace HF := aM_ (MkF.step HF.out hb); replace HT := aM_ (oa_ HT.out hb); clear hb; refine ⟨_, rfl, ?_⟩; refine hK.out _ _ ⟨HF.out.blk, HSC _ HT.out⟩ (fun hHeld => ?_); clear hK K; refine wa_ (a' := ?_) ?_ ?_; rotate_left
  ·show Act.put _ (some 26) _ = _
   simp only [Act.put, s1_, s2_, s3_, ia_, ja_]; rfl
  refine pU_ 16 27 ?_ #[true, true, true, true, true, true, true, true, true, true, true, true, true, true, true, true, true, true, true, false, false, false, true, false, false, false, false, false] rfl rfl (by kernel_rfl) (fun _ _ _ h => h) (by rfl) ?_ ?_ ?_ ?_; rotate_left
  ·intro w'
   go_simp; try with_reducible rfl
  rotate_left; simp only [Act.put, s1_, s2_, s3_, ia_, ja_]; rfl
 focus
  refine two_ (i := 7) (j := 19) (Ni := some 18) (Nj := some 30) #[true, true, true, true, true, true, true, true, true, true, true, false, false, true, true, true, true, true, true, false, false, false, true, false, false, false, false, false] #[true, true, true, true, true, true, true, false, true, true, true, false, false, true, true, true, true, true, true, true, false, false, true, false, false, false, false, false] rfl rfl rfl rfl (by kernel_rfl) (by decide) (by decide) (fun K hK => ?_) (fun K hK => ?_)
  focus
   refine ad_ (w1 := ?_) (v := ?_) (by rfl) rfl ?_ ?_; rotate_left 2
   ·go_simp
    constructor
    ·rfl
    rfl
   have HT := aM_ (ra_ W9 (.cells #[.string (⟨#[111, 110, 101]⟩ : BA), .string (⟨#[120, 32, 121]⟩ : BA), .string (⟨#[195, 164]⟩ : BA), .string (⟨#[55, 117, 112]⟩ : BA), .string (⟨#[45]⟩ : BA)] 9)); replace HF := aM_ (MkF.step HF.out (aa_ (Below.refl W9.heap.size W9) (.cells #[.string (⟨#[111, 110, 101]⟩ : BA), .string (⟨#[120, 32, 121]⟩ : BA), .string (⟨#[195, 164]⟩ : BA), .string (⟨#[55, 117, 112]⟩ : BA), .string (⟨#[45]⟩ : BA)] 9))); replace HU := aM_ (RuF.step HU.out (aa_ (Below.refl W9.heap.size W9) (.cells #[.string (⟨#[111, 110, 101]⟩ : BA), .string (⟨#[120, 32, 121]⟩ : BA), .string (⟨#[195, 164]⟩ : BA), .string (⟨#[55, 117, 112]⟩ : BA), .string (⟨#[45]⟩ : BA)] 9))); refine hK.out _ _ ⟨HF.out.blk, HF.out.blk⟩ (fun hHeld => ?_); clear hK K hHeld; refine wa_ (a' := ?_) ?_ ?_; rotate_left
   ·show Act.put _ (some 18) _ = _
    simp only [Act.put, s1_, s2_, s3_, ia_, ja_]; rfl
   generalize W9.alloc (.cells #[.string (⟨#[111, 110, 101]⟩ : BA), .string (⟨#[120, 32, 121]⟩ : BA), .string (⟨#[195, 164]⟩ : BA), .string (⟨#[55, 117, 112]⟩ : BA), .string (⟨#[45]⟩ : BA)] 9) = W8 at *; generalize hbn : W9.heap.size = b at *; have HSC := tg_ b t HTB.out; generalize (⟨b, 0, none⟩ : Addr) = ad at *; have hHeld : W8.heap[g]? = some (.cells #[.int .i64 a0, .int .i64 a1, .int .i64 a2, .int .i64 a3, .slice A4 l.length c4, .bool true] 24 (0, 0)) ∧ W8.cell? (ad.add t.toNat) = some (.string (rdOf ByteArray.empty wd_ t)) := ⟨HF.out.blk, HSC _ HT.out⟩; refine oe_ (S' := fun w' => w'.heap[g]? = some (.cells #[.int .i64 a0, .int .i64 a1, .int .i64 a2, .int .i64 a3, .slice A4 l.length c4, .bool true] 24 (0, 0)) ∧ w'.cell? (ad.add t.toNat) = some (.string (rdOf ByteArray.empty wd_ t))) (fun _ h => ⟨h.1, h.1⟩) _ _ _ _ hHeld ?_; clear hbn; refine pU_ 11 22 ?_ #[true, true, true, true, true, true, true, true, true, true, true, true, false, true, true, true, true, true, true, false, false, false, true, false, false, false, false, false] rfl rfl (by kernel_rfl) (fun _ _ _ h => h) (by rfl) ?_ ?_ ?_ ?_; rotate_left
   ·intro w'
    go_simp; try with_reducible rfl
   rotate_left
   ·simp only [Act.put, s1_, s2_, s3_, ia_, ja_]
    rfl
   refine tA_ 12 23 ?_ #[true, true, true, true, true, true, true, true, true, true, true, true, true, true, true, true, true, true, true, false, false, false, true, false, false, false, false, false] rfl rfl (by kernel_rfl) (fun _ _ _ h => h) (by rfl) ?_ hHeld ?_ ?_ ?_; rotate_left
   ·rintro w' ⟨s0, s1⟩
    go_simp; try with_reducible rfl
   rotate_left; simp only [Act.put, s1_, s2_, s3_, ia_, ja_]; rfl
  rotate_left
  focus
   refine xb_ Tryz.func19 (by kernel_rfl) rfl #[.int .i64 a3, .int .i64 100] (by rfl) rfl rfl (by (try simp only [List.map_toArray, List.map_cons, List.map_nil]); rfl) ?_
   refine (HW3.out _).mono ?_; rintro e W9 ⟨rfl, hb⟩; replace HU := aM_ (RuF.step HU.out hb); replace HF := aM_ (MkF.step HF.out hb); clear hb; refine ⟨_, rfl, ?_⟩; refine hK.out _ _ ⟨HF.out.blk, HF.out.blk⟩ (fun hHeld => ?_); clear hK K; refine wa_ (a' := ?_) ?_ ?_; rotate_left
   ·show Act.put _ (some 30) _ = _
    simp only [Act.put, s1_, s2_, s3_, ia_, ja_]; rfl
   refine pU_ 20 31 ?_ #[true, true, true, true, true, true, true, false, true, true, true, false, false, true, true, true, true, true, true, true, true, false, true, false, false, false, false, false] rfl rfl (by kernel_rfl) (fun _ _ _ h => h) (by rfl) ?_ ?_ ?_ ?_; rotate_left
   ·intro w'
    go_simp; try with_reducible rfl
   rotate_left; simp only [Act.put, s1_, s2_, s3_, ia_, ja_]; rfl
 all_goals try
  refine one_ (i := 19) (N := some 30) #[true, true, true, true, true, true, true, true, true, true, true, true, true, true, true, true, true, true, true, true, false, false, true, false, false, false, false, false] rfl rfl (by kernel_rfl) (by decide) (fun K hK => ?_); refine xb_ Tryz.func19 (by kernel_rfl) rfl #[.int .i64 a3, .int .i64 100] (by rfl) rfl rfl (by (try simp only [List.map_toArray, List.map_cons, List.map_nil]); rfl) ?_
  refine (HW3.out _).mono ?_; rintro e W9 ⟨rfl, hb⟩; replace HU := aM_ (RuF.step HU.out hb); replace HF := aM_ (MkF.step HF.out hb); replace HT := aM_ (oa_ HT.out hb); clear hb; refine ⟨_, rfl, ?_⟩; refine hK.out _ _ ⟨HF.out.blk, HSC _ HT.out⟩ (fun hHeld => ?_); clear hK K; refine wa_ (a' := ?_) ?_ ?_; rotate_left
  ·show Act.put _ (some 30) _ = _
   simp only [Act.put, s1_, s2_, s3_, ia_, ja_]; rfl
  refine pU_ 20 31 ?_ #[true, true, true, true, true, true, true, true, true, true, true, true, true, true, true, true, true, true, true, true, true, false, true, false, false, false, false, false] rfl rfl (by kernel_rfl) (fun _ _ _ h => h) (by rfl) ?_ ?_ ?_ ?_; rotate_left
  ·intro w'
   go_simp; try with_reducible rfl
  rotate_left
  ·simp only [Act.put, s1_, s2_, s3_, ia_, ja_]
   rfl
  refine pU_ 21 32 ?_ (f_ 28 23) rfl rfl (by kernel_rfl) (fun _ _ _ h => h) (by rfl) ?_ ?_ ?_ ?_; rotate_left
  ·intro w'
   go_simp; try with_reducible rfl
  rotate_left; simp only [Act.put, s1_, s2_, s3_, ia_, ja_]; rfl
 focus
  refine one_ (i := 7) (N := some 18) #[true, true, true, true, true, true, true, true, true, true, true, false, false, true, true, true, true, true, true, true, true, false, true, false, false, false, false, false] rfl rfl (by kernel_rfl) (by decide) (fun K hK => ?_); refine ad_ (w1 := ?_) (v := ?_) (by rfl) rfl ?_ ?_; rotate_left 2
  ·go_simp
   constructor
   ·rfl
   rfl
  have HT := aM_ (ra_ W9 (.cells #[.string (⟨#[111, 110, 101]⟩ : BA), .string (⟨#[120, 32, 121]⟩ : BA), .string (⟨#[195, 164]⟩ : BA), .string (⟨#[55, 117, 112]⟩ : BA), .string (⟨#[45]⟩ : BA)] 9)); replace HF := aM_ (MkF.step HF.out (aa_ (Below.refl W9.heap.size W9) (.cells #[.string (⟨#[111, 110, 101]⟩ : BA), .string (⟨#[120, 32, 121]⟩ : BA), .string (⟨#[195, 164]⟩ : BA), .string (⟨#[55, 117, 112]⟩ : BA), .string (⟨#[45]⟩ : BA)] 9))); replace HU := aM_ (RuF.step HU.out (aa_ (Below.refl W9.heap.size W9) (.cells #[.string (⟨#[111, 110, 101]⟩ : BA), .string (⟨#[120, 32, 121]⟩ : BA), .string (⟨#[195, 164]⟩ : BA), .string (⟨#[55, 117, 112]⟩ : BA), .string (⟨#[45]⟩ : BA)] 9))); refine hK.out _ _ ⟨HF.out.blk, HF.out.blk⟩ (fun hHeld => ?_); clear hK K hHeld; refine wa_ (a' := ?_) ?_ ?_; rotate_left
  ·show Act.put _ (some 18) _ = _
   simp only [Act.put, s1_, s2_, s3_, ia_, ja_]; rfl
  generalize W9.alloc (.cells #[.string (⟨#[111, 110, 101]⟩ : BA), .string (⟨#[120, 32, 121]⟩ : BA), .string (⟨#[195, 164]⟩ : BA), .string (⟨#[55, 117, 112]⟩ : BA), .string (⟨#[45]⟩ : BA)] 9) = W8 at *; generalize hbn : W9.heap.size = b at *; have HSC := tg_ b t HTB.out; generalize (⟨b, 0, none⟩ : Addr) = ad at *; have hHeld : W8.heap[g]? = some (.cells #[.int .i64 a0, .int .i64 a1, .int .i64 a2, .int .i64 a3, .slice A4 l.length c4, .bool true] 24 (0, 0)) ∧ W8.cell? (ad.add t.toNat) = some (.string (rdOf ByteArray.empty wd_ t)) := ⟨HF.out.blk, HSC _ HT.out⟩; refine oe_ (S' := fun w' => w'.heap[g]? = some (.cells #[.int .i64 a0, .int .i64 a1, .int .i64 a2, .int .i64 a3, .slice A4 l.length c4, .bool true] 24 (0, 0)) ∧ w'.cell? (ad.add t.toNat) = some (.string (rdOf ByteArray.empty wd_ t))) (fun _ h => ⟨h.1, h.1⟩) _ _ _ _ hHeld ?_; clear hbn; refine pU_ 11 22 ?_ #[true, true, true, true, true, true, true, true, true, true, true, true, false, true, true, true, true, true, true, true, true, false, true, false, false, false, false, false] rfl rfl (by kernel_rfl) (fun _ _ _ h => h) (by rfl) ?_ ?_ ?_ ?_; rotate_left
  ·intro w'
   go_simp; try with_reducible rfl
  rotate_left
  ·simp only [Act.put, s1_, s2_, s3_, ia_, ja_]
   rfl
  refine tA_ 12 23 ?_ #[true, true, true, true, true, true, true, true, true, true, true, true, true, true, true, true, true, true, true, true, true, false, true, false, false, false, false, false] rfl rfl (by kernel_rfl) (fun _ _ _ h => h) (by rfl) ?_ hHeld ?_ ?_ ?_; rotate_left
  ·rintro w' ⟨s0, s1⟩
   go_simp; try with_reducible rfl
  rotate_left
  ·simp only [Act.put, s1_, s2_, s3_, ia_, ja_]
   rfl
  refine pU_ 21 32 ?_ (f_ 28 23) rfl rfl (by kernel_rfl) (fun _ _ _ h => h) (by rfl) ?_ ?_ ?_ ?_; rotate_left
  ·intro w'
   go_simp; try with_reducible rfl
  rotate_left; simp only [Act.put, s1_, s2_, s3_, ia_, ja_]; rfl
 all_goals
 all_goals
  refine one_ (i := 23) (N := some 34) (f_ 28 24) rfl rfl (by kernel_rfl) (by decide) (fun K hK => ?_); refine Kd.R_lit_step k46 _ 46 ?hg (N := 34) ?hd (xs := ([(⟨rdOf ByteArray.empty wd_ t, wrap64 (1 + x3), wrap64 (xh - 5)⟩ : S46), (⟨(⟨#[116, 119, 111]⟩ : BA), 2, 2⟩ : S46)] : List S46)) (inner := [.string (rdOf ByteArray.empty wd_ t), .int .i64 (wrap64 (1 + x3)), .int .i64 (wrap64 (xh - 5)), .string (⟨#[116, 119, 111]⟩ : BA), .int .i64 2, .int .i64 2]) (ok := fun _ => True) (okp := fun _ => True) ?hr ?hp (fun _ hk => hk) trivial (Below.refl _ _) (Nat.le_refl _) (by simp) ?_; (case hd => rfl); (case hg => rfl); (case hr => first | (go_simp; done) | (go_simp; rfl)); (case hp => exact (Reps.c3 (show Kd.M k46 _ _ _ (⟨rdOf ByteArray.empty wd_ t, wrap64 (1 + x3), wrap64 (xh - 5)⟩ : S46) [.string (rdOf ByteArray.empty wd_ t), .int .i64 (wrap64 (1 + x3)), .int .i64 (wrap64 (xh - 5))] from (qc_ _ _ _ (⟨rdOf ByteArray.empty wd_ t, wrap64 (1 + x3), wrap64 (xh - 5)⟩ : S46))) (Reps.c3 (show Kd.M k46 _ _ _ (⟨(⟨#[116, 119, 111]⟩ : BA), 2, 2⟩ : S46) [.string (⟨#[116, 119, 111]⟩ : BA), .int .i64 2, .int .i64 2] from (qc_ _ _ _ (⟨(⟨#[116, 119, 111]⟩ : BA), 2, 2⟩ : S46))) (Reps.none _ _)))); intro vx WX ho hb hg_ hnew_; clear hg_ hnew_; replace ho : Kd.R k46 46 WX _ _ vx (uq_ t x3 xh) := ho; obtain ⟨AX, cX, hvx⟩ := Kd.R_slice ho; subst hvx; have HX := aM_ (LexF.of HF.out ho); replace HF := aM_ (MkF.step HF.out hb); replace HU := aM_ (RuF.step HU.out hb); replace HT := aM_ (oa_ HT.out hb); clear hb ho; refine hK.out _ _ ⟨HF.out.blk, HSC _ HT.out⟩ (fun hHeld => ?_); clear hK K; refine wa_ (a' := ?_) ?_ ?_; rotate_left
  ·show Act.put _ (some 34) _ = _
   simp only [Act.put, s1_, s2_, s3_, ia_, ja_]; rfl
  refine pU_ 24 35 ?_ (f_ 28 25) rfl rfl (by kernel_rfl) (fun _ _ _ h => h) (by rfl) ?_ ?_ ?_ ?_; rotate_left
  ·intro w'
   go_simp; try with_reducible rfl
  rotate_left; simp only [Act.put, s1_, s2_, s3_, ia_, ja_]; rfl
 all_goals
  refine one_ (i := 25) (N := some 36) (f_ 28 26) rfl rfl (by kernel_rfl) (by decide) (fun K hK => ?_); refine ad_ (w1 := ?_) (v := ?_) (by rfl) rfl ?_ ?_; rotate_left 2
  ·go_simp
   constructor
   ·rfl
   rfl
  refine hK.out _ _ ⟨oa_ HF.out.blk (aa_ (Below.refl _ _) _), HSC _ (oa_ HT.out (aa_ (Below.refl _ _) _))⟩ (fun hHeld => ?_); clear hK K; refine wa_ (a' := ?_) ?_ ?_; rotate_left; show Act.put _ (some 36) _ = _; simp only [Act.put, s1_, s2_, s3_, ia_, ja_]; rfl
 all_goals
  refine one_ (i := 26) (N := some 37) (f_ 28 27) rfl rfl (by kernel_rfl) (by decide) (fun K hK => ?_); refine Kd.N_append_step k44 (w0 := w) w.heap.size (by rfl) (.tmp 11) (.tmp 36) 26 44 (.agg #[(.string ⟨#[]⟩), (.int .i64 0), (.int .i64 0), (.slice none 0 0), (.slice none 0 0), (.slice none 0 0)]) 104 rfl Tryz.underlying26 info44 rfl (by decide) (by omega) (.slice As S.length cs) S (⟨(⟨#[120]⟩ : BA), (-1), d4, uq_ t x3 xh, res, []⟩ : S44) [.string (⟨#[120]⟩ : BA), .int .i64 (-1), .int .i64 d4, .slice AX 2 cX, .slice A7 res.length c7, .slice none 0 0] (okF w g) (fun k => okF w g k ∧ some k ≠ (.slice As S.length cs : Value).ownBlock) rfl rfl (ql_ _ _ (⟨(⟨#[120]⟩ : BA), (-1), d4, uq_ t x3 xh, res, []⟩ : S44) HX.out.2 HX.out.1 HU.out.2 HU.out.1 (Nat.le_refl _) (Kd.F_nil _ _ _)) (fun _ hk => hk) (fun k hk => ⟨Nat.le_trans HF.out.old.size hk, by have := eb_ HF.out.blk; omega⟩) HF.out.row HF.out.old HF.out.old.size (by rw [HSL.out]; omega) ?_; intro vo WO ho hb hg hat; have HO := aM_ ho; have HOB := aM_ hb; have HZ := aM_ (lb_ HF.out.blk hg (Kd.N_ne HF.out.row HF.out.blk (by decide))); have HZT := aM_ (lb_ HT.out hg (Kd.N_ne HF.out.row HT.out (by decide))); clear ho hb hg hat; refine hK.out _ _ ⟨HZ.out, HSC _ HZT.out⟩ (fun hHeld => ?_); clear hK K; refine wa_ (a' := ?_) ?_ ?_; rotate_left
  ·show Act.put _ (some 37) _ = _
   simp only [Act.put, s1_, s2_, s3_, ia_, ja_]; rfl
  refine pU_ 27 3 ?_ (f_ 28 28) rfl rfl (by kernel_rfl) (fun _ _ _ h => h) (by rfl) ?_ ?_ ?_ ?_; rotate_left
  ·intro w'
   go_simp; try with_reducible rfl
  rotate_left
  ·simp only [Act.put, s1_, s2_, s3_, ia_, ja_]
   rfl
  refine ge_ (by kernel_rfl) ?_; clear HF HU HT HX HZ HZT
  go_wp2
  go_ret
  exact ⟨_, rfl, Kd.N_mono HO.out (fun _ hk => hk.1), HOB.out⟩
theorem sq_ (a0 a1 a2 a3 : Int) (A4 : Option Addr) (c4 : Nat) (l : List Raw') (S : List S44) (w : World) (hS : l5_Sample.f a0 a1 = some S) :
  Calls Tryz.prog 13 #[.agg #[.int .i64 a0, .int .i64 a1, .int .i64 a2, .int .i64 a3, .slice A4 l.length c4, .bool false]] w fun e w' => ∃ v, e = .returned v ∧ Kd.N k44 44 w' w.heap.size (fun k => w.heap.size ≤ k) v S ∧ Below w.heap.size w w' := by
 have HSS := aM_ hS
 have hu1 := Tryz.underlying24
 clear hS
 have HBK : Az ((w.alloc (.cells #[.int .i64 a0, .int .i64 a1, .int .i64 a2, .int .i64 a3, .slice A4 l.length c4, .bool false] 24)).heap[w.heap.size]? = some (.cells #[.int .i64 a0, .int .i64 a1, .int .i64 a2, .int .i64 a3, .slice A4 l.length c4, .bool false] 24 (0, 0))) := ⟨ra_ w _⟩
 have HB1 : Az (Below w.heap.size w (w.alloc (.cells #[.int .i64 a0, .int .i64 a1, .int .i64 a2, .int .i64 a3, .slice A4 l.length c4, .bool false] 24))) := ⟨aa_ (Below.refl _ _) _⟩
 go_enter Tryz.func13, Tryz.ntmps13
 go_wp2_with fail
 generalize w.alloc (.cells #[.int .i64 a0, .int .i64 a1, .int .i64 a2, .int .i64 a3, .slice A4 l.length c4, .bool false] 24) = W1 at *
 generalize hgg : w.heap.size = g at *
 have hc0 : W1.cell? ⟨g, 0, none⟩ = some (.int .i64 a0) := ba_ HBK.out 0
 have hc1 : W1.cell? ⟨g, 1, none⟩ = some (.int .i64 a1) := ba_ HBK.out 1
 go_wp2_with fail
 refine (l5_Sample.calls a0 a1 S W1 HSS.out).mono ?_
 rintro e W2 ⟨vs, rfl, hN, hb⟩
 have hBw : Below w.heap.size w W1 := by rw [hgg]; exact HB1.out
 have HN := aM_ (Kd.N_mono (Kd.N_lower hN hBw.size) (fun k hk => Nat.le_trans hBw.size hk))
 have HB2 := aM_ (ga_ hBw hb)
 have hc5 : W2.cell? ⟨g, 5, none⟩ = some (.bool false) := ba_ (oa_ HBK.out hb) 5
 clear hN hb HBK HB1 hc0 hc1 hBw hgg
 go_wp2
 go_ret
 exact ⟨_, rfl, HN.out, HB2.out⟩
theorem make5_w (a0 a1 a2 a3 : Int) (A4 : Option Addr) (c4 : Nat) (l : List Raw') (b : Bool) (hc : l.length ≤ c4) (hl : l.length ≤ 12) (hok : ∀ x ∈ l, fl_ x) (hf : fewB l = true) :
  ∃ m, XOk (a0 % 3) (a1 % 4) m ∧ ∀ w, Kd.C k120 w A4 l.length l → Calls Tryz.prog 13 #[.agg #[.int .i64 a0, .int .i64 a1, .int .i64 a2, .int .i64 a3, .slice A4 l.length c4, .bool b]] w fun e w' => ∃ v, e = .returned v ∧ Kd.N k44 44 w' w.heap.size (fun k => w.heap.size ≤ k) v (zb_ (a0 % 3) (a1 % 4) ++ m) ∧ Below w.heap.size w w' := by
 have ho : 0 ≤ a0 % 3 ∧ a0 % 3 < 3 := by omega
 have hd : 0 ≤ a1 % 4 ∧ a1 % 4 < 4 := by omega
 have hSm := sp_ a0 a1
 cases b with
 | false =>
  refine ⟨[], ⟨ho, hd, .inl rfl⟩, fun w _ => ?_⟩; rw [List.append_nil]
  exact sq_ a0 a1 a2 a3 A4 c4 l _ w hSm
 | true =>
  obtain ⟨res, ht, hr⟩ := ur_ l 6 (by omega) (by omega) hok hf; obtain ⟨n, hn⟩ := Int.eq_ofNat_of_zero_le (show 0 ≤ a2 % 5 by omega); have he := texts_ok ⟨n, by omega⟩; have hw1 : wrap64 (1 + a3 % 3) = 1 + a3 % 3 := pe_ (by omega); have hw2 : wrap64 (a3 % 100 - 5) = a3 % 100 - 5 := pe_ (by omega); refine ⟨[xL (a1 % 4) (rdOf ByteArray.empty wd_ (n : Int)) (1 + a3 % 3) (a3 % 100 - 5) res], ⟨ho, hd, .inr ⟨_, _, _, _, rfl, he, by omega, by omega, ht⟩⟩, fun w hC => ?_⟩; have h := ms_ a0 a1 a2 a3 (a1 % 4) (n : Int) (a3 % 3) (a3 % 100) A4 c4 l _ res w hC hc hSm rfl (hr 300 (by omega)) rfl hn rfl rfl; unfold uq_ at h; rw [hw1, hw2] at h; exact h
end Go.Proofs.YtiocgaekoeekgaaGreat.P
end
section
namespace Go.Proofs.YtiocgaekoeekgaaGreat.P
open Go.RowKit YtiocgaekoeekgaaGreatW.PrintWords YtiocgaekoeekgaaGreatW.PrintLast YtiocgaekoeekgaaGreatW.PrintMore
attribute [local go_sem] vb_ tb_ fc_ dc_ ob_ nb_ ub_ sb_   
set_option linter.unusedVariables false
set_option linter.unusedSimpArgs false
theorem decode_w {b : List Int} {r1 : List S44} {r2 : Bool} (h : blob_Decode.f b = some (r1, r2)) (A : Option Addr) (c n : Nat) (w : World) (hr : Kd.C (Kd.int .u8) w A b.length b) (hc : b.length ≤ c) (hn : n = b.length) :
  Calls Tryz.prog 15 #[.slice A n c] w fun e w' => ∃ A' c', e = .returned (.tuple #[.slice A' r1.length c', .bool r2]) ∧ Kd.C k44 w' A' r1.length r1 ∧ r1.length ≤ c' ∧ Below w.heap.size w w' := by
 subst hn
 refine (blob_Decode.calls A c b r1 r2 w hr hc h).mono ?_
 rintro e w' ⟨v, rfl, hv, hb⟩
 obtain ⟨A', c', rfl⟩ := Kd.R_slice hv
 have h2 := Kd.R_reads' hv
 exact ⟨A', c', rfl, h2.2.2, h2.2.1, hb⟩
end Go.Proofs.YtiocgaekoeekgaaGreat.P
end
section
namespace Go.Proofs.YtiocgaekoeekgaaGreat.P
open Go.RowKit YtiocgaekoeekgaaGreatW.PrintWords YtiocgaekoeekgaaGreatW.PrintLast YtiocgaekoeekgaaGreatW.PrintMore
attribute [local go_sem] vb_ tb_ fc_ dc_ ob_ nb_ ub_ sb_   
set_option linter.unusedVariables false
set_option linter.unusedSimpArgs false
attribute [local go_sem] Oper.semAt_some
theorem blobback_walk (x0 x1 x2 x3 : Int) (A : Option Addr) (c : Nat) (l : List Raw') (b : Bool) (w : World) (hr : Kd.C k120 w A l.length l) (hc : l.length ≤ c) (hok : ∀ x ∈ l, fl_ x) :
  Calls Tryz.prog 3 #[.agg #[.int .i64 x0, .int .i64 x1, .int .i64 x2, .int .i64 x3, .slice A l.length c, .bool b]] w fun e w' => e = .returned (.bool true) ∧ Below w.heap.size w w' := by
 have HR := aM_ hr
 have HC := aM_ hc
 have hbn := hr.2.1
 have hf := xv_ x0 x1 x2 x3 l b hr.2.1 (l.length + 1) (by omega)
 have HMK : Az ((fewB l && decide (l.length ≤ 12)) = true → ∃ m, XOk (x0 % 3) (x1 % 4) m ∧ ∀ w, Kd.C k120 w A l.length l → Calls Tryz.prog 13 #[.agg #[.int .i64 x0, .int .i64 x1, .int .i64 x2, .int .i64 x3, .slice A l.length c, .bool b]] w fun e w' => ∃ v, e = .returned v ∧ Kd.N k44 44 w' w.heap.size (fun k => w.heap.size ≤ k) v (zb_ (x0 % 3) (x1 % 4) ++ m) ∧ Below w.heap.size w w') := ⟨fun h => by
  rw [Bool.and_eq_true, decide_eq_true_eq] at h
  exact make5_w x0 x1 x2 x3 A c l b hc h.2 hok h.1⟩
 have hu1 := Tryz.underlying24
 have HBK : Az ((w.alloc (.cells #[.int .i64 x0, .int .i64 x1, .int .i64 x2, .int .i64 x3, .slice A l.length c, .bool b] 24)).heap[w.heap.size]? = some (.cells #[.int .i64 x0, .int .i64 x1, .int .i64 x2, .int .i64 x3, .slice A l.length c, .bool b] 24 (0, 0))) := ⟨ra_ w _⟩
 have HB1 : Az (Below w.heap.size w (w.alloc (.cells #[.int .i64 x0, .int .i64 x1, .int .i64 x2, .int .i64 x3, .slice A l.length c, .bool b] 24))) := ⟨aa_ (Below.refl _ _) _⟩
 generalize (fewB l && decide (l.length ≤ 12)) = q at *
 have HF := aM_ hf
 clear hr hc hok hf
 go_enter Tryz.func3, Tryz.ntmps3
 go_wp2_with fail
 generalize w.alloc (.cells #[.int .i64 x0, .int .i64 x1, .int .i64 x2, .int .i64 x3, .slice A l.length c, .bool b] 24) = W1 at *
 generalize hgg : w.heap.size = g at *
 refine (vq_ W1).mono ?_
 rintro e W2 ⟨rfl, hb⟩
 have HBK2 := aM_ (oa_ HBK.out hb)
 have HB2 : Az (Below w.heap.size w W2) := ⟨ga_ (by rw [hgg]; exact HB1.out) hb⟩
 have HGG := aM_ hgg
 clear hb HBK HB1 hgg
 have h0 : W2.cell? ⟨g, 0, none⟩ = some (.int .i64 x0) := ba_ HBK2.out 0
 have h1 : W2.cell? ⟨g, 1, none⟩ = some (.int .i64 x1) := ba_ HBK2.out 1
 have h2 : W2.cell? ⟨g, 2, none⟩ = some (.int .i64 x2) := ba_ HBK2.out 2
 have h3 : W2.cell? ⟨g, 3, none⟩ = some (.int .i64 x3) := ba_ HBK2.out 3
 have h4 : W2.cell? ⟨g, 4, none⟩ = some (.slice A l.length c) := ba_ HBK2.out 4
 have h5 : W2.cell? ⟨g, 5, none⟩ = some (.bool b) := ba_ HBK2.out 5
 go_wp2_with fail
 refine (l5_Shape_Few.calls (l.length + 1) x0 x1 x2 x3 A c l b q W2 (Kd.C_below HR.out HB2.out) HC.out HF.out).mono ?_
 rintro e W3 ⟨rfl, hb⟩
 have HBK3 := aM_ (oa_ HBK2.out hb)
 have HB3 : Az (Below w.heap.size w W3) := ⟨ga_ HB2.out hb⟩
 clear hb HBK2 HB2 h0 h1 h2 h3 h4 h5
 cases q with
 | false =>
  go_wp2
  go_ret
  exact ⟨rfl, HB3.out⟩
 | true =>
  obtain ⟨m, hx, hmk⟩ := HMK.out rfl; have hE := mk_enc hx; have hmore := mk_more hx [] (by simp); have hrt := aq_ hx; have hoL := jk_ (mk_okB hx); generalize zb_ (x0 % 3) (x1 % 4) ++ m = L at *; rw [List.append_nil, if_pos rfl] at hmore; have HM := aM_ hmk; have HRT := aM_ hrt; have HOL := aM_ hoL; have HLE : Az ((enc8 L).length ≤ 1000000000000) := ⟨by omega⟩; have HD2 := aM_ hmore; have h0 : W3.cell? ⟨g, 0, none⟩ = some (.int .i64 x0) := ba_ HBK3.out 0; have h1 : W3.cell? ⟨g, 1, none⟩ = some (.int .i64 x1) := ba_ HBK3.out 1; have h2 : W3.cell? ⟨g, 2, none⟩ = some (.int .i64 x2) := ba_ HBK3.out 2; have h3 : W3.cell? ⟨g, 3, none⟩ = some (.int .i64 x3) := ba_ HBK3.out 3; have h4 : W3.cell? ⟨g, 4, none⟩ = some (.slice A l.length c) := ba_ HBK3.out 4; have h5 : W3.cell? ⟨g, 5, none⟩ = some (.bool b) := ba_ HBK3.out 5; clear hmk hmore hx HMK HF hE hrt hoL
  go_wp2_with fail
  refine (HM.out W3 (Kd.C_below HR.out HB3.out)).mono ?_; rintro e W4 ⟨vl, rfl, hN, hb⟩; obtain ⟨AL, cL, rfl⟩ := Kd.N_slice hN; have hN2 := Kd.N_reads' hN; have HB4 : Az (Below w.heap.size w W4) := ⟨ga_ HB3.out hb⟩; have HCL := aM_ hN2.2.2; have HLL := aM_ hN2.2.1; clear hN hN2 hb HBK3 HB3 h0 h1 h2 h3 h4 h5 HM
  go_wp2_with fail
  refine (wj_ AL cL L W4 HCL.out HLL.out HLE.out).mono ?_; rintro e W5 ⟨ve, rfl, hN, hb⟩; obtain ⟨AE, cE, rfl⟩ := Kd.R_slice hN; have hN2 := Kd.R_reads' hN; have HB5 : Az (Below w.heap.size w W5) := ⟨ga_ HB4.out hb⟩; have HC5 := aM_ hN2.2.2; have HLC5 := aM_ hN2.2.1; have HCL5 := aM_ (Kd.C_below HCL.out hb); clear hN hN2 hb HCL HB4
  go_wp2_with fail
  refine (decode_w HD2.out AE cE _ W5 HC5.out HLC5.out rfl).mono ?_; rintro e WB ⟨AM, cM, rfl, hM1, hM2, hb⟩; have HBW : Az (Below w.heap.size w WB) := ⟨ga_ HB5.out hb⟩; have HCE := aM_ (Kd.C_below HC5.out hb); have hLB := Kd.C_below HCL5.out hb
  have HRI : Az (∀ W, Below WB.heap.size WB W → Calls Tryz.prog 16 #[.slice AL L.length cL] W fun e w' => e = .returned (.bool true) ∧ Below W.heap.size W w') := ⟨fun W hW => by
   have h := sh_ AL cL L W (Kd.C_below hLB hW) HLL.out HOL.out; rw [HRT.out] at h
   exact h⟩
  have HEN : Az (∀ W, Below WB.heap.size WB W → Calls Tryz.prog 17 #[.slice AL L.length cL] W fun e w' => ∃ v, e = .returned v ∧ Kd.R (Kd.int .u8) 5 w' W.heap.size (fun _ => True) v (enc8 L) ∧ Below W.heap.size W w') := ⟨fun W hW => fj_ AL cL L W (Kd.C_below hLB hW) HLL.out HLE.out⟩
  have HSA : Az (∀ W, Below WB.heap.size WB W → Calls Tryz.prog 18 #[.slice AL L.length cL, .slice AM L.length cM] W fun e w' => e = .returned (.bool true) ∧ Below W.heap.size W w') := ⟨fun W hW => by
   have h := tt_ AL AM cL cM L L W (Kd.C_below hLB hW) HLL.out HLE.out (Kd.C_below hM1 hW) hM2 HLE.out; have hs : aj_ L L = true := by unfold aj_; rw [beq_self_eq_true]
   rw [hs] at h
   exact h⟩
  clear hLB hM1 hM2 hb HB5 HC5 HLC5 HCL5 HD2 HLE HRT HOL; generalize enc8 L = E at *; have hEq : ((strOfNums E).toList == (strOfNums E).toList) = true := beq_self_eq_true _
  go_wp2_with fail
  refine yd_ (n := 19) (S := fun w' => w'.heap.size = w'.heap.size ∧ Az (Below WB.heap.size WB w')) (ds := []) (f_ 19 0) (by kernel_rfl) rfl rfl ⟨rfl, ⟨fa_ (Below.refl _ _)⟩⟩ (fun hHeld => ?_); refine pU_ 0 21 ?_ (f_ 19 1) rfl rfl (by kernel_rfl) (fun _ _ _ h => h) (by rfl) ?_ ?_ ?_ ?_; rotate_left
  ·intro w'
   go_simp; try with_reducible rfl
  rotate_left
  ·simp only [Act.put, s1_, s2_, s3_, ia_, ja_]
   rfl
  refine one_ (i := 1) (N := some 22) (f_ 19 2) rfl rfl (by kernel_rfl) (by decide) (fun K hK => ?_); refine xb_ Tryz.func16 (by kernel_rfl) rfl #[.slice AL L.length cL] (by rfl) rfl rfl (by (try simp only [List.map_toArray, List.map_cons, List.map_nil]); rfl) ?_
  refine (HRI.out _ hHeld.2.out).mono ?_; rintro e w1 ⟨rfl, hb⟩; refine ⟨_, rfl, ?_⟩; refine hK.out _ _ ⟨rfl, ⟨ga_ hHeld.2.out hb⟩⟩ (fun hHeld => ?_); clear hK K; refine wa_ (a' := ?_) ?_ ?_; rotate_left
  ·show Act.put _ (some 22) _ = _
   simp only [Act.put, s1_, s2_, s3_, ia_, ja_]; rfl
  refine pU_ 2 23 ?_ (f_ 19 3) rfl rfl (by kernel_rfl) (fun _ _ _ h => h) (by rfl) ?_ ?_ ?_ ?_; rotate_left
  ·intro w'
   go_simp; try with_reducible rfl
  rotate_left
  ·simp only [Act.put, s1_, s2_, s3_, ia_, ja_]
   rfl
  refine pU_ 3 24 ?_ (f_ 19 4) rfl rfl (by kernel_rfl) (fun _ _ _ h => h) (by rfl) ?_ ?_ ?_ ?_; rotate_left
  ·intro w'
   go_simp; try with_reducible rfl
  rotate_left
  ·simp only [Act.put, s1_, s2_, s3_, ia_, ja_]
   rfl
  refine pU_ 5 26 ?_ #[true, true, true, true, false, true, false, false, false, false, false, false, false, false, false, false, false, false, false] rfl rfl (by kernel_rfl) (fun _ _ _ h => h) (by rfl) ?_ ?_ ?_ ?_; rotate_left
  ·intro w'
   go_simp; try with_reducible rfl
  rotate_left
  ·simp only [Act.put, s1_, s2_, s3_, ia_, ja_]
   rfl
  refine two_ (i := 4) (j := 6) (Ni := some 25) (Nj := some 27) (f_ 19 6) #[true, true, true, true, false, true, true, false, false, false, false, false, false, false, false, false, false, false, false] rfl rfl rfl rfl (by kernel_rfl) (by decide) (by decide) (fun K hK => ?_) (fun K hK => ?_)
  ·have hcv : (convert 28 9 (.slice AE E.length cE)).run Tryz.prog w1 = .ok (.string (strOfNums E)) w1 := Kd.C_string Tryz.underlying28 Tryz.underlying5 Tryz.underlying9 (Kd.C_below HCE.out hHeld.2.out)
   refine ad_ (w1 := w1) (v := .string (strOfNums E)) (by rfl) rfl ?_ ?_
   ·go_simp
   clear hcv; refine hK.out _ _ hHeld (fun hHeld => ?_); clear hK K; refine wa_ (a' := ?_) ?_ ?_; rotate_left
   ·show Act.put _ (some 25) _ = _
    simp only [Act.put, s1_, s2_, s3_, ia_, ja_]; rfl
   refine one_ (i := 6) (N := some 27) (f_ 19 7) rfl rfl (by kernel_rfl) (by decide) (fun K hK => ?_); refine xb_ Tryz.func17 (by kernel_rfl) rfl #[.slice AL L.length cL] (by rfl) rfl rfl (by (try simp only [List.map_toArray, List.map_cons, List.map_nil]); rfl) ?_
   refine (HEN.out _ hHeld.2.out).mono ?_; rintro e w2 ⟨v2, rfl, hr, hb⟩; obtain ⟨A2, k2, hs2⟩ := Kd.R_slice hr; subst hs2; have HR2 := aM_ (Kd.R_reads' hr).2.2; clear hr; refine ⟨_, rfl, ?_⟩; refine hK.out _ _ ⟨rfl, ⟨ga_ hHeld.2.out hb⟩⟩ (fun hHeld => ?_); clear hK K; refine wa_ (a' := ?_) ?_ ?_; rotate_left
   ·show Act.put _ (some 27) _ = _
    simp only [Act.put, s1_, s2_, s3_, ia_, ja_]; rfl
   refine one_ (i := 7) (N := some 28) (f_ 19 8) rfl rfl (by kernel_rfl) (by decide) (fun K hK => ?_); have hcv : (convert 28 9 (.slice A2 E.length k2)).run Tryz.prog w2 = .ok (.string (strOfNums E)) w2 := Kd.C_string Tryz.underlying28 Tryz.underlying5 Tryz.underlying9 (HR2.out); refine ad_ (w1 := w2) (v := .string (strOfNums E)) (by rfl) rfl ?_ ?_
   ·go_simp
   clear hcv; refine hK.out _ _ hHeld (fun hHeld => ?_); clear hK K; refine wa_ (a' := ?_) ?_ ?_; rotate_left
   ·show Act.put _ (some 28) _ = _
    simp only [Act.put, s1_, s2_, s3_, ia_, ja_]; rfl
   refine pU_ 8 29 ?_ (f_ 19 9) rfl rfl (by kernel_rfl) (fun _ _ _ h => h) (by rfl) ?_ ?_ ?_ ?_; rotate_left
   ·intro w'
    go_simp; try with_reducible rfl
   rotate_left
   ·simp only [Act.put, s1_, s2_, s3_, ia_, ja_]
    rfl
   refine pU_ 9 30 ?_ (f_ 19 10) rfl rfl (by kernel_rfl) (fun _ _ _ h => h) (by rfl) ?_ ?_ ?_ ?_; rotate_left
   ·intro w'
    go_simp; try with_reducible rfl
   rotate_left
   ·simp only [Act.put, s1_, s2_, s3_, ia_, ja_]
    rfl
   refine pU_ 10 31 ?_ (f_ 19 11) rfl rfl (by kernel_rfl) (fun _ _ _ h => h) (by rfl) ?_ ?_ ?_ ?_; rotate_left
   ·intro w'
    go_simp; try with_reducible rfl
   rotate_left
   ·simp only [Act.put, s1_, s2_, s3_, ia_, ja_]
    rfl
   refine pU_ 11 32 ?_ (f_ 19 12) rfl rfl (by kernel_rfl) (fun _ _ _ h => h) (by rfl) ?_ ?_ ?_ ?_; rotate_left
   ·intro w'
    go_simp; try with_reducible rfl
   rotate_left
   ·simp only [Act.put, s1_, s2_, s3_, ia_, ja_]
    rfl
   refine pU_ 12 33 ?_ (f_ 19 13) rfl rfl (by kernel_rfl) (fun _ _ _ h => h) (by rfl) ?_ ?_ ?_ ?_; rotate_left
   ·intro w'
    go_simp; try with_reducible rfl
   rotate_left
   ·simp only [Act.put, s1_, s2_, s3_, ia_, ja_]
    rfl
   refine pU_ 13 34 ?_ (f_ 19 14) rfl rfl (by kernel_rfl) (fun _ _ _ h => h) (by rfl) ?_ ?_ ?_ ?_; rotate_left
   ·intro w'
    go_simp; try with_reducible rfl
   rotate_left
   ·simp only [Act.put, s1_, s2_, s3_, ia_, ja_]
    rfl
   refine pU_ 14 35 ?_ (f_ 19 15) rfl rfl (by kernel_rfl) (fun _ _ _ h => h) (by rfl) ?_ ?_ ?_ ?_; rotate_left
   ·intro w'
    go_simp; try with_reducible rfl
   rotate_left
   ·simp only [Act.put, s1_, s2_, s3_, ia_, ja_]
    rfl
   refine pU_ 15 36 ?_ (f_ 19 16) rfl rfl (by kernel_rfl) (fun _ _ _ h => h) (by rfl) ?_ ?_ ?_ ?_; rotate_left
   ·intro w'
    go_simp; try with_reducible rfl
   rotate_left
   ·simp only [Act.put, s1_, s2_, s3_, ia_, ja_]
    rfl
   refine one_ (i := 16) (N := some 37) (f_ 19 17) rfl rfl (by kernel_rfl) (by decide) (fun K hK => ?_); refine xb_ Tryz.func18 (by kernel_rfl) rfl #[.slice AL L.length cL, .slice AM L.length cM] (by rfl) rfl rfl (by (try simp only [List.map_toArray, List.map_cons, List.map_nil]); rfl) ?_
   refine (HSA.out _ hHeld.2.out).mono ?_; rintro e w3 ⟨rfl, hb⟩; refine ⟨_, rfl, ?_⟩; refine hK.out _ _ ⟨rfl, ⟨ga_ hHeld.2.out hb⟩⟩ (fun hHeld => ?_); clear hK K; refine wa_ (a' := ?_) ?_ ?_; rotate_left
   ·show Act.put _ (some 37) _ = _
    simp only [Act.put, s1_, s2_, s3_, ia_, ja_]; rfl
   refine pU_ 17 38 ?_ (f_ 19 18) rfl rfl (by kernel_rfl) (fun _ _ _ h => h) (by rfl) ?_ ?_ ?_ ?_; rotate_left
   ·intro w'
    go_simp; try with_reducible rfl
   rotate_left
   ·simp only [Act.put, s1_, s2_, s3_, ia_, ja_]
    rfl
   refine pU_ 18 2 ?_ (f_ 19 19) rfl rfl (by kernel_rfl) (fun _ _ _ h => h) (by rfl) ?_ ?_ ?_ ?_; rotate_left
   ·intro w'
    go_simp; try with_reducible rfl
   rotate_left
   ·simp only [Act.put, s1_, s2_, s3_, ia_, ja_]
    rfl
   refine ge_ (by kernel_rfl) ?_; clear HEN HRI HSA HR2
   go_wp2
   go_ret
   exact ⟨rfl, ga_ HBW.out hHeld.2.out⟩
  refine xb_ Tryz.func17 (by kernel_rfl) rfl #[.slice AL L.length cL] (by rfl) rfl rfl (by (try simp only [List.map_toArray, List.map_cons, List.map_nil]); rfl) ?_
  refine (HEN.out _ hHeld.2.out).mono ?_; rintro e w2 ⟨v2, rfl, hr, hb⟩; obtain ⟨A2, k2, hs2⟩ := Kd.R_slice hr; subst hs2; have HR2 := aM_ (Kd.R_reads' hr).2.2; clear hr; refine ⟨_, rfl, ?_⟩; refine hK.out _ _ ⟨rfl, ⟨ga_ hHeld.2.out hb⟩⟩ (fun hHeld => ?_); clear hK K; refine wa_ (a' := ?_) ?_ ?_; rotate_left
  ·show Act.put _ (some 27) _ = _
   simp only [Act.put, s1_, s2_, s3_, ia_, ja_]; rfl
  refine two_ (i := 4) (j := 7) (Ni := some 25) (Nj := some 28) (f_ 19 7) #[true, true, true, true, false, true, true, true, false, false, false, false, false, false, false, false, false, false, false] rfl rfl rfl rfl (by kernel_rfl) (by decide) (by decide) (fun K hK => ?_) (fun K hK => ?_)
  ·have hcv : (convert 28 9 (.slice AE E.length cE)).run Tryz.prog w2 = .ok (.string (strOfNums E)) w2 := Kd.C_string Tryz.underlying28 Tryz.underlying5 Tryz.underlying9 (Kd.C_below HCE.out hHeld.2.out)
   refine ad_ (w1 := w2) (v := .string (strOfNums E)) (by rfl) rfl ?_ ?_
   ·go_simp
   clear hcv; refine hK.out _ _ hHeld (fun hHeld => ?_); clear hK K; refine wa_ (a' := ?_) ?_ ?_; rotate_left
   ·show Act.put _ (some 25) _ = _
    simp only [Act.put, s1_, s2_, s3_, ia_, ja_]; rfl
   refine one_ (i := 7) (N := some 28) (f_ 19 8) rfl rfl (by kernel_rfl) (by decide) (fun K hK => ?_); have hcv : (convert 28 9 (.slice A2 E.length k2)).run Tryz.prog w2 = .ok (.string (strOfNums E)) w2 := Kd.C_string Tryz.underlying28 Tryz.underlying5 Tryz.underlying9 (HR2.out); refine ad_ (w1 := w2) (v := .string (strOfNums E)) (by rfl) rfl ?_ ?_
   ·go_simp
   clear hcv; refine hK.out _ _ hHeld (fun hHeld => ?_); clear hK K; refine wa_ (a' := ?_) ?_ ?_; rotate_left
   ·show Act.put _ (some 28) _ = _
    simp only [Act.put, s1_, s2_, s3_, ia_, ja_]; rfl
   refine pU_ 8 29 ?_ (f_ 19 9) rfl rfl (by kernel_rfl) (fun _ _ _ h => h) (by rfl) ?_ ?_ ?_ ?_; rotate_left
   ·intro w'
    go_simp; try with_reducible rfl
   rotate_left
   ·simp only [Act.put, s1_, s2_, s3_, ia_, ja_]
    rfl
   refine pU_ 9 30 ?_ (f_ 19 10) rfl rfl (by kernel_rfl) (fun _ _ _ h => h) (by rfl) ?_ ?_ ?_ ?_; rotate_left
   ·intro w'
    go_simp; try with_reducible rfl
   rotate_left
   ·simp only [Act.put, s1_, s2_, s3_, ia_, ja_]
    rfl
   refine pU_ 10 31 ?_ (f_ 19 11) rfl rfl (by kernel_rfl) (fun _ _ _ h => h) (by rfl) ?_ ?_ ?_ ?_; rotate_left
   ·intro w'
    go_simp; try with_reducible rfl
   rotate_left
   ·simp only [Act.put, s1_, s2_, s3_, ia_, ja_]
    rfl
   refine pU_ 11 32 ?_ (f_ 19 12) rfl rfl (by kernel_rfl) (fun _ _ _ h => h) (by rfl) ?_ ?_ ?_ ?_; rotate_left
   ·intro w'
    go_simp; try with_reducible rfl
   rotate_left
   ·simp only [Act.put, s1_, s2_, s3_, ia_, ja_]
    rfl
   refine pU_ 12 33 ?_ (f_ 19 13) rfl rfl (by kernel_rfl) (fun _ _ _ h => h) (by rfl) ?_ ?_ ?_ ?_; rotate_left
   ·intro w'
    go_simp; try with_reducible rfl
   rotate_left
   ·simp only [Act.put, s1_, s2_, s3_, ia_, ja_]
    rfl
   refine pU_ 13 34 ?_ (f_ 19 14) rfl rfl (by kernel_rfl) (fun _ _ _ h => h) (by rfl) ?_ ?_ ?_ ?_; rotate_left
   ·intro w'
    go_simp; try with_reducible rfl
   rotate_left
   ·simp only [Act.put, s1_, s2_, s3_, ia_, ja_]
    rfl
   refine pU_ 14 35 ?_ (f_ 19 15) rfl rfl (by kernel_rfl) (fun _ _ _ h => h) (by rfl) ?_ ?_ ?_ ?_; rotate_left
   ·intro w'
    go_simp; try with_reducible rfl
   rotate_left
   ·simp only [Act.put, s1_, s2_, s3_, ia_, ja_]
    rfl
   refine pU_ 15 36 ?_ (f_ 19 16) rfl rfl (by kernel_rfl) (fun _ _ _ h => h) (by rfl) ?_ ?_ ?_ ?_; rotate_left
   ·intro w'
    go_simp; try with_reducible rfl
   rotate_left
   ·simp only [Act.put, s1_, s2_, s3_, ia_, ja_]
    rfl
   refine one_ (i := 16) (N := some 37) (f_ 19 17) rfl rfl (by kernel_rfl) (by decide) (fun K hK => ?_); refine xb_ Tryz.func18 (by kernel_rfl) rfl #[.slice AL L.length cL, .slice AM L.length cM] (by rfl) rfl rfl (by (try simp only [List.map_toArray, List.map_cons, List.map_nil]); rfl) ?_
   refine (HSA.out _ hHeld.2.out).mono ?_; rintro e w3 ⟨rfl, hb⟩; refine ⟨_, rfl, ?_⟩; refine hK.out _ _ ⟨rfl, ⟨ga_ hHeld.2.out hb⟩⟩ (fun hHeld => ?_); clear hK K; refine wa_ (a' := ?_) ?_ ?_; rotate_left
   ·show Act.put _ (some 37) _ = _
    simp only [Act.put, s1_, s2_, s3_, ia_, ja_]; rfl
   refine pU_ 17 38 ?_ (f_ 19 18) rfl rfl (by kernel_rfl) (fun _ _ _ h => h) (by rfl) ?_ ?_ ?_ ?_; rotate_left
   ·intro w'
    go_simp; try with_reducible rfl
   rotate_left
   ·simp only [Act.put, s1_, s2_, s3_, ia_, ja_]
    rfl
   refine pU_ 18 2 ?_ (f_ 19 19) rfl rfl (by kernel_rfl) (fun _ _ _ h => h) (by rfl) ?_ ?_ ?_ ?_; rotate_left
   ·intro w'
    go_simp; try with_reducible rfl
   rotate_left
   ·simp only [Act.put, s1_, s2_, s3_, ia_, ja_]
    rfl
   refine ge_ (by kernel_rfl) ?_; clear HEN HRI HSA HR2
   go_wp2
   go_ret
   exact ⟨rfl, ga_ HBW.out hHeld.2.out⟩
  have hcv : (convert 28 9 (.slice A2 E.length k2)).run Tryz.prog w2 = .ok (.string (strOfNums E)) w2 := Kd.C_string Tryz.underlying28 Tryz.underlying5 Tryz.underlying9 (HR2.out); refine ad_ (w1 := w2) (v := .string (strOfNums E)) (by rfl) rfl ?_ ?_
  ·go_simp
  clear hcv; refine hK.out _ _ hHeld (fun hHeld => ?_); clear hK K; refine wa_ (a' := ?_) ?_ ?_; rotate_left
  ·show Act.put _ (some 28) _ = _
   simp only [Act.put, s1_, s2_, s3_, ia_, ja_]; rfl
  refine one_ (i := 4) (N := some 25) (f_ 19 8) rfl rfl (by kernel_rfl) (by decide) (fun K hK => ?_); have hcv : (convert 28 9 (.slice AE E.length cE)).run Tryz.prog w2 = .ok (.string (strOfNums E)) w2 := Kd.C_string Tryz.underlying28 Tryz.underlying5 Tryz.underlying9 (Kd.C_below HCE.out hHeld.2.out); refine ad_ (w1 := w2) (v := .string (strOfNums E)) (by rfl) rfl ?_ ?_
  ·go_simp
  clear hcv; refine hK.out _ _ hHeld (fun hHeld => ?_); clear hK K; refine wa_ (a' := ?_) ?_ ?_; rotate_left
  ·show Act.put _ (some 25) _ = _
   simp only [Act.put, s1_, s2_, s3_, ia_, ja_]; rfl
  refine pU_ 8 29 ?_ (f_ 19 9) rfl rfl (by kernel_rfl) (fun _ _ _ h => h) (by rfl) ?_ ?_ ?_ ?_; rotate_left
  ·intro w'
   go_simp; try with_reducible rfl
  rotate_left
  ·simp only [Act.put, s1_, s2_, s3_, ia_, ja_]
   rfl
  refine pU_ 9 30 ?_ (f_ 19 10) rfl rfl (by kernel_rfl) (fun _ _ _ h => h) (by rfl) ?_ ?_ ?_ ?_; rotate_left
  ·intro w'
   go_simp; try with_reducible rfl
  rotate_left
  ·simp only [Act.put, s1_, s2_, s3_, ia_, ja_]
   rfl
  refine pU_ 10 31 ?_ (f_ 19 11) rfl rfl (by kernel_rfl) (fun _ _ _ h => h) (by rfl) ?_ ?_ ?_ ?_; rotate_left
  ·intro w'
   go_simp; try with_reducible rfl
  rotate_left
  ·simp only [Act.put, s1_, s2_, s3_, ia_, ja_]
   rfl
  refine pU_ 11 32 ?_ (f_ 19 12) rfl rfl (by kernel_rfl) (fun _ _ _ h => h) (by rfl) ?_ ?_ ?_ ?_; rotate_left
  ·intro w'
   go_simp; try with_reducible rfl
  rotate_left
  ·simp only [Act.put, s1_, s2_, s3_, ia_, ja_]
   rfl
  refine pU_ 12 33 ?_ (f_ 19 13) rfl rfl (by kernel_rfl) (fun _ _ _ h => h) (by rfl) ?_ ?_ ?_ ?_; rotate_left
  ·intro w'
   go_simp; try with_reducible rfl
  rotate_left
  ·simp only [Act.put, s1_, s2_, s3_, ia_, ja_]
   rfl
  refine pU_ 13 34 ?_ (f_ 19 14) rfl rfl (by kernel_rfl) (fun _ _ _ h => h) (by rfl) ?_ ?_ ?_ ?_; rotate_left
  ·intro w'
   go_simp; try with_reducible rfl
  rotate_left
  ·simp only [Act.put, s1_, s2_, s3_, ia_, ja_]
   rfl
  refine pU_ 14 35 ?_ (f_ 19 15) rfl rfl (by kernel_rfl) (fun _ _ _ h => h) (by rfl) ?_ ?_ ?_ ?_; rotate_left
  ·intro w'
   go_simp; try with_reducible rfl
  rotate_left
  ·simp only [Act.put, s1_, s2_, s3_, ia_, ja_]
   rfl
  refine pU_ 15 36 ?_ (f_ 19 16) rfl rfl (by kernel_rfl) (fun _ _ _ h => h) (by rfl) ?_ ?_ ?_ ?_; rotate_left
  ·intro w'
   go_simp; try with_reducible rfl
  rotate_left
  ·simp only [Act.put, s1_, s2_, s3_, ia_, ja_]
   rfl
  refine one_ (i := 16) (N := some 37) (f_ 19 17) rfl rfl (by kernel_rfl) (by decide) (fun K hK => ?_); refine xb_ Tryz.func18 (by kernel_rfl) rfl #[.slice AL L.length cL, .slice AM L.length cM] (by rfl) rfl rfl (by (try simp only [List.map_toArray, List.map_cons, List.map_nil]); rfl) ?_
  refine (HSA.out _ hHeld.2.out).mono ?_; rintro e w3 ⟨rfl, hb⟩; refine ⟨_, rfl, ?_⟩; refine hK.out _ _ ⟨rfl, ⟨ga_ hHeld.2.out hb⟩⟩ (fun hHeld => ?_); clear hK K; refine wa_ (a' := ?_) ?_ ?_; rotate_left
  ·show Act.put _ (some 37) _ = _
   simp only [Act.put, s1_, s2_, s3_, ia_, ja_]; rfl
  refine pU_ 17 38 ?_ (f_ 19 18) rfl rfl (by kernel_rfl) (fun _ _ _ h => h) (by rfl) ?_ ?_ ?_ ?_; rotate_left
  ·intro w'
   go_simp; try with_reducible rfl
  rotate_left
  ·simp only [Act.put, s1_, s2_, s3_, ia_, ja_]
   rfl
  refine pU_ 18 2 ?_ (f_ 19 19) rfl rfl (by kernel_rfl) (fun _ _ _ h => h) (by rfl) ?_ ?_ ?_ ?_; rotate_left
  ·intro w'
   go_simp; try with_reducible rfl
  rotate_left
  ·simp only [Act.put, s1_, s2_, s3_, ia_, ja_]
   rfl
  refine ge_ (by kernel_rfl) ?_; clear HEN HRI HSA HR2
  go_wp2
  go_ret
  exact ⟨rfl, ga_ HBW.out hHeld.2.out⟩
end Go.Proofs.YtiocgaekoeekgaaGreat.P
end
section
namespace Go.Proofs.YtiocgaekoeekgaaGreat.P
open Go.RowKit YtiocgaekoeekgaaGreatW.PrintWords YtiocgaekoeekgaaGreatW.PrintLast YtiocgaekoeekgaaGreatW.PrintMore
attribute [local go_sem] vb_ tb_ fc_ dc_ ob_ nb_ ub_ sb_   
set_option linter.unusedVariables false
set_option linter.unusedSimpArgs false
theorem fs_ {P : Program} {t : TypeId} (ht : P.underlying t = some .bool) (hc : P.cellsOf t = 1) : xi_ P t Kd.bool (fun _ => True) := by
 refine ⟨hc, fun H enc W base spare held fuel cs x h => ?_⟩
 obtain ⟨b, rfl, _⟩ := DataW.trod_bool ht h
 exact ⟨b, rfl, trivial⟩
theorem opBool : xi_ Tryz.prog 4 Kd.bool (fun _ => True) := fs_ Tryz.underlying4 (by kernel_rfl)
theorem open_shape {H : Type} {enc : TypeId × Value → H} {W : World} {base : Nat} {spare : Nat → Bool} {held : Bool} {fuel : Nat} {cs : List Value} {x : DataW H × List MemPlace} (h : DataW.trod enc Tryz.prog W base spare held fuel 24 cs = some x) :
  ∃ (a0 a1 a2 a3 : Int) (l : List S120) (b : Bool) (A : Option Addr) (c : Nat), cs = [.int .i64 a0, .int .i64 a1, .int .i64 a2, .int .i64 a3, .slice A l.length c, .bool b] ∧ (wfI a0 ∧ wfI a1 ∧ wfI a2 ∧ wfI a3) ∧ (∀ x ∈ l, fl_ x) ∧ l.length ≤ c ∧ Kd.C k120 W A l.length l := by
 obtain ⟨hl, hf⟩ := qj_ Tryz.underlying24 h
 have hl2 : cs.length = 6 := hl.trans (by kernel_rfl)
 obtain ⟨v0, k0, w0⟩ := hf 0 _ rfl el_
 obtain ⟨v1, k1, w1⟩ := hf 1 _ rfl el_
 obtain ⟨v2, k2, w2⟩ := hf 2 _ rfl el_
 obtain ⟨v3, k3, w3⟩ := hf 3 _ rfl el_
 obtain ⟨v4, ⟨A4, c4, k4, l4, g4⟩, w4⟩ := hf 4 _ rfl opRaws
 obtain ⟨v5, k5, w5⟩ := hf 5 _ rfl opBool
 match cs, hl2 with
 | [b0, b1, b2, b3, b4, b5], _ =>
  have e0 : [b0] = [.int .i64 v0] := k0; have e1 : [b1] = [.int .i64 v1] := k1; have e2 : [b2] = [.int .i64 v2] := k2; have e3 : [b3] = [.int .i64 v3] := k3; have e4 : [b4] = [.slice A4 v4.length c4] := k4; have e5 : [b5] = [.bool v5] := k5; rw [(List.cons.inj e0).1, (List.cons.inj e1).1, (List.cons.inj e2).1, (List.cons.inj e3).1, (List.cons.inj e4).1, (List.cons.inj e5).1]; exact ⟨v0, v1, v2, v3, v4, v5, A4, c4, rfl, ⟨w0, w1, w2, w3⟩, w4, l4, g4⟩
end Go.Proofs.YtiocgaekoeekgaaGreat.P
end
