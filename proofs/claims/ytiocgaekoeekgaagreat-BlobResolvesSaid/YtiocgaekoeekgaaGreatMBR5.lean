/- Any name is resolved as the document says: what the parent has stands ahead: BlobResolves answers true for all that it is given, with no condition. Part 5: contracts of the functions that the law reaches, and words for them. -/
import Derived.Deep.Slices
import Derived.ChangeArms
import Derived.ChangeSame
import Derived.Test.YtiocgaekoeekgaaGreatMBR4
set_option maxHeartbeats 32000000
set_option maxRecDepth 100000
section
namespace Go.Proofs.YtiocgaekoeekgaaGreat.P
open Go.RowKit YtiocgaekoeekgaaGreatW.PrintWords YtiocgaekoeekgaaGreatW.PrintLast YtiocgaekoeekgaaGreatW.PrintMore
attribute [local go_sem] ub_ rb_ cc_ bc_ kb_ jb_ tb_ qb_   
set_option linter.unusedVariables false
set_option linter.unusedSimpArgs false
attribute [local go_sem] Oper.semAt_some
def others15 : List db_ := [
 (⟨2, [(-1), (-55), (-1)], ⟨3, [0, 2]⟩, 0⟩ : db_),
 (⟨2, [(-1), (-55), (-1), (-55), (-1)], ⟨3, [0, 2, 4]⟩, 0⟩ : db_),
 (⟨2, [(-1), (-6)], ⟨4, [0, 1]⟩, 1⟩ : db_),
 (⟨2, [(-1), (-55), (-1), (-6)], ⟨4, [0, 2, 3]⟩, 0⟩ : db_),
 (⟨3, [1, 2], ⟨5, [0, 1]⟩, 0⟩ : db_),
 (⟨4, [(-1)], ⟨8, [0]⟩, 0⟩ : db_),
 (⟨4, [(-1), (-53), (-1)], ⟨9, [0, 2]⟩, 0⟩ : db_),
 (⟨4, [(-1), (-54), (-1)], ⟨10, [0, 2]⟩, 1⟩ : db_),
 (⟨4, [(-52), 4], ⟨11, [1]⟩, 1⟩ : db_),
 (⟨5, [(-7), 4], ⟨12, [0, 1]⟩, 0⟩ : db_),
 (⟨5, [4, (-7)], ⟨12, [1, 0]⟩, 0⟩ : db_),
 (⟨9, [(-1), (-8)], ⟨13, [0, 1]⟩, 0⟩ : db_),
 (⟨6, [9], ⟨0, [0]⟩, 0⟩ : db_),
 (⟨6, [6, 9], ⟨14, [0, 1]⟩, 1⟩ : db_),
 (⟨7, [1, (-9), 1], ⟨15, [0, 2]⟩, 0⟩ : db_)]
def mq_ (i : Int) : db_ := ⟨0, [i], ⟨0, [0]⟩, i % 3⟩
def ae_ (i : Nat) : List db_ := others15 ++ (List.range i).map fun (j : Nat) => mq_ ((j : Int) + 1)
theorem nn_ (i : Nat) : ae_ (i + 1) = ae_ i ++ [mq_ ((i : Int) + 1)] := by
 unfold ae_
 rw [List.range_succ, List.map_append, List.append_assoc]
 rfl
theorem fp_ (i : Nat) : (ae_ i).length = 15 + i := by
 unfold ae_
 rw [List.length_append, List.length_map, List.length_range]
 rfl
def xd_ : List db_ := ae_ 7
theorem rj_ (w : World) : Calls Tryz.prog 26 #[] w fun e w' => ∃ v : Value, e = .returned v ∧ Kd.S k56 56 w' w.heap.size (fun _ => True) v xd_ ∧ Below w.heap.size w w' := by
 obtain ⟨W0, hW0⟩ : ∃ W0, W0 = w := ⟨_, rfl⟩
 have HB0 : Az (Below w.heap.size w W0) := ⟨by rw [hW0]; exact Below.refl _ _⟩
 have RL0 := aM_ (RLits.nil W0 w.heap.size)
 have HW0 := aM_ hW0
 go_enter Tryz.func26, Tryz.ntmps26
 rw [← HW0.out]
 have hb00 : w.heap.size ≤ W0.heap.size := HB0.out.size
 clear hW0 hb00
 have hg0 := HB0.out.size
 have RA0 : Az (RLits ((W0.alloc (.cells #[.int .i64 (-1), .int .i64 (-55), .int .i64 (-1)] 3)).alloc (.cells #[.int .i64 0, .int .i64 2] 3)) w.heap.size _) := ⟨RL0.out.snoc (aa_ (aa_ (Below.refl _ _) _) _) (⟨2, [(-1), (-55), (-1)], ⟨3, [0, 2]⟩, 0⟩ : db_) W0.heap.size (W0.heap.size + 1) (ta_ (oa_ W0 _)) (gb_ Tt_) ⟨Td_, Td_⟩ (.inr ⟨Nat.le_refl _, Nat.le_succ _⟩)⟩
 have BA0 : Az (Below w.heap.size w ((W0.alloc (.cells #[.int .i64 (-1), .int .i64 (-55), .int .i64 (-1)] 3)).alloc (.cells #[.int .i64 0, .int .i64 2] 3))) := ⟨da_ HB0.out (aa_ (aa_ (Below.refl _ _) _) _)⟩
 clear hg0
 go_wp2_with fail
 refine (nb_ 2 (some ⟨W0.heap.size, 0, none⟩) 3 3 3 (some ⟨W0.heap.size + 1, 0, none⟩) 2 2 0 ((W0.alloc (.cells #[.int .i64 (-1), .int .i64 (-55), .int .i64 (-1)] 3)).alloc (.cells #[.int .i64 0, .int .i64 2] 3))).mono ?_
 rintro e W1 ⟨rfl, hb⟩
 have RL1 := aM_ (RA0.out.below hb)
 have HB1 := aM_ (da_ BA0.out hb)
 clear hb RA0 BA0 RL0 HB0
 generalize W0.heap.size = s0 at *
 have hg1 := HB1.out.size
 have RA1 : Az (RLits ((W1.alloc (.cells #[.int .i64 (-1), .int .i64 (-55), .int .i64 (-1), .int .i64 (-55), .int .i64 (-1)] 3)).alloc (.cells #[.int .i64 0, .int .i64 2, .int .i64 4] 3)) w.heap.size _) := ⟨RL1.out.snoc (aa_ (aa_ (Below.refl _ _) _) _) (⟨2, [(-1), (-55), (-1), (-55), (-1)], ⟨3, [0, 2, 4]⟩, 0⟩ : db_) W1.heap.size (W1.heap.size + 1) (ta_ (oa_ W1 _)) (gb_ Tt_) ⟨Td_, Td_⟩ (.inr ⟨Nat.le_refl _, Nat.le_succ _⟩)⟩
 have BA1 : Az (Below w.heap.size w ((W1.alloc (.cells #[.int .i64 (-1), .int .i64 (-55), .int .i64 (-1), .int .i64 (-55), .int .i64 (-1)] 3)).alloc (.cells #[.int .i64 0, .int .i64 2, .int .i64 4] 3))) := ⟨da_ HB1.out (aa_ (aa_ (Below.refl _ _) _) _)⟩
 clear hg1
 go_wp2_with fail
 refine (nb_ 2 (some ⟨W1.heap.size, 0, none⟩) 5 5 3 (some ⟨W1.heap.size + 1, 0, none⟩) 3 3 0 ((W1.alloc (.cells #[.int .i64 (-1), .int .i64 (-55), .int .i64 (-1), .int .i64 (-55), .int .i64 (-1)] 3)).alloc (.cells #[.int .i64 0, .int .i64 2, .int .i64 4] 3))).mono ?_
 rintro e W2 ⟨rfl, hb⟩
 have RL2 := aM_ (RA1.out.below hb)
 have HB2 := aM_ (da_ BA1.out hb)
 clear hb RA1 BA1 RL1 HB1
 generalize W1.heap.size = s1 at *
 have hg2 := HB2.out.size
 have RA2 : Az (RLits ((W2.alloc (.cells #[.int .i64 (-1), .int .i64 (-6)] 3)).alloc (.cells #[.int .i64 0, .int .i64 1] 3)) w.heap.size _) := ⟨RL2.out.snoc (aa_ (aa_ (Below.refl _ _) _) _) (⟨2, [(-1), (-6)], ⟨4, [0, 1]⟩, 1⟩ : db_) W2.heap.size (W2.heap.size + 1) (ta_ (oa_ W2 _)) (gb_ Tt_) ⟨Td_, Td_⟩ (.inr ⟨Nat.le_refl _, Nat.le_succ _⟩)⟩
 have BA2 : Az (Below w.heap.size w ((W2.alloc (.cells #[.int .i64 (-1), .int .i64 (-6)] 3)).alloc (.cells #[.int .i64 0, .int .i64 1] 3))) := ⟨da_ HB2.out (aa_ (aa_ (Below.refl _ _) _) _)⟩
 clear hg2
 go_wp2_with fail
 refine (nb_ 2 (some ⟨W2.heap.size, 0, none⟩) 2 2 4 (some ⟨W2.heap.size + 1, 0, none⟩) 2 2 1 ((W2.alloc (.cells #[.int .i64 (-1), .int .i64 (-6)] 3)).alloc (.cells #[.int .i64 0, .int .i64 1] 3))).mono ?_
 rintro e W3 ⟨rfl, hb⟩
 have RL3 := aM_ (RA2.out.below hb)
 have HB3 := aM_ (da_ BA2.out hb)
 clear hb RA2 BA2 RL2 HB2
 generalize W2.heap.size = s2 at *
 have hg3 := HB3.out.size
 have RA3 : Az (RLits ((W3.alloc (.cells #[.int .i64 (-1), .int .i64 (-55), .int .i64 (-1), .int .i64 (-6)] 3)).alloc (.cells #[.int .i64 0, .int .i64 2, .int .i64 3] 3)) w.heap.size _) := ⟨RL3.out.snoc (aa_ (aa_ (Below.refl _ _) _) _) (⟨2, [(-1), (-55), (-1), (-6)], ⟨4, [0, 2, 3]⟩, 0⟩ : db_) W3.heap.size (W3.heap.size + 1) (ta_ (oa_ W3 _)) (gb_ Tt_) ⟨Td_, Td_⟩ (.inr ⟨Nat.le_refl _, Nat.le_succ _⟩)⟩
 have BA3 : Az (Below w.heap.size w ((W3.alloc (.cells #[.int .i64 (-1), .int .i64 (-55), .int .i64 (-1), .int .i64 (-6)] 3)).alloc (.cells #[.int .i64 0, .int .i64 2, .int .i64 3] 3))) := ⟨da_ HB3.out (aa_ (aa_ (Below.refl _ _) _) _)⟩
 clear hg3
 go_wp2_with fail
 refine (nb_ 2 (some ⟨W3.heap.size, 0, none⟩) 4 4 4 (some ⟨W3.heap.size + 1, 0, none⟩) 3 3 0 ((W3.alloc (.cells #[.int .i64 (-1), .int .i64 (-55), .int .i64 (-1), .int .i64 (-6)] 3)).alloc (.cells #[.int .i64 0, .int .i64 2, .int .i64 3] 3))).mono ?_
 rintro e W4 ⟨rfl, hb⟩
 have RL4 := aM_ (RA3.out.below hb)
 have HB4 := aM_ (da_ BA3.out hb)
 clear hb RA3 BA3 RL3 HB3
 generalize W3.heap.size = s3 at *
 have hg4 := HB4.out.size
 have RA4 : Az (RLits ((W4.alloc (.cells #[.int .i64 1, .int .i64 2] 3)).alloc (.cells #[.int .i64 0, .int .i64 1] 3)) w.heap.size _) := ⟨RL4.out.snoc (aa_ (aa_ (Below.refl _ _) _) _) (⟨3, [1, 2], ⟨5, [0, 1]⟩, 0⟩ : db_) W4.heap.size (W4.heap.size + 1) (ta_ (oa_ W4 _)) (gb_ Tt_) ⟨Td_, Td_⟩ (.inr ⟨Nat.le_refl _, Nat.le_succ _⟩)⟩
 have BA4 : Az (Below w.heap.size w ((W4.alloc (.cells #[.int .i64 1, .int .i64 2] 3)).alloc (.cells #[.int .i64 0, .int .i64 1] 3))) := ⟨da_ HB4.out (aa_ (aa_ (Below.refl _ _) _) _)⟩
 clear hg4
 go_wp2_with fail
 refine (nb_ 3 (some ⟨W4.heap.size, 0, none⟩) 2 2 5 (some ⟨W4.heap.size + 1, 0, none⟩) 2 2 0 ((W4.alloc (.cells #[.int .i64 1, .int .i64 2] 3)).alloc (.cells #[.int .i64 0, .int .i64 1] 3))).mono ?_
 rintro e W5 ⟨rfl, hb⟩
 have RL5 := aM_ (RA4.out.below hb)
 have HB5 := aM_ (da_ BA4.out hb)
 clear hb RA4 BA4 RL4 HB4
 generalize W4.heap.size = s4 at *
 have hg5 := HB5.out.size
 have RA5 : Az (RLits ((W5.alloc (.cells #[.int .i64 (-1)] 3)).alloc (.cells #[.int .i64 0] 3)) w.heap.size _) := ⟨RL5.out.snoc (aa_ (aa_ (Below.refl _ _) _) _) (⟨4, [(-1)], ⟨8, [0]⟩, 0⟩ : db_) W5.heap.size (W5.heap.size + 1) (ta_ (oa_ W5 _)) (gb_ Tt_) ⟨Td_, Td_⟩ (.inr ⟨Nat.le_refl _, Nat.le_succ _⟩)⟩
 have BA5 : Az (Below w.heap.size w ((W5.alloc (.cells #[.int .i64 (-1)] 3)).alloc (.cells #[.int .i64 0] 3))) := ⟨da_ HB5.out (aa_ (aa_ (Below.refl _ _) _) _)⟩
 clear hg5
 go_wp2_with fail
 refine (nb_ 4 (some ⟨W5.heap.size, 0, none⟩) 1 1 8 (some ⟨W5.heap.size + 1, 0, none⟩) 1 1 0 ((W5.alloc (.cells #[.int .i64 (-1)] 3)).alloc (.cells #[.int .i64 0] 3))).mono ?_
 rintro e W6 ⟨rfl, hb⟩
 have RL6 := aM_ (RA5.out.below hb)
 have HB6 := aM_ (da_ BA5.out hb)
 clear hb RA5 BA5 RL5 HB5
 generalize W5.heap.size = s5 at *
 have hg6 := HB6.out.size
 have RA6 : Az (RLits ((W6.alloc (.cells #[.int .i64 (-1), .int .i64 (-53), .int .i64 (-1)] 3)).alloc (.cells #[.int .i64 0, .int .i64 2] 3)) w.heap.size _) := ⟨RL6.out.snoc (aa_ (aa_ (Below.refl _ _) _) _) (⟨4, [(-1), (-53), (-1)], ⟨9, [0, 2]⟩, 0⟩ : db_) W6.heap.size (W6.heap.size + 1) (ta_ (oa_ W6 _)) (gb_ Tt_) ⟨Td_, Td_⟩ (.inr ⟨Nat.le_refl _, Nat.le_succ _⟩)⟩
 have BA6 : Az (Below w.heap.size w ((W6.alloc (.cells #[.int .i64 (-1), .int .i64 (-53), .int .i64 (-1)] 3)).alloc (.cells #[.int .i64 0, .int .i64 2] 3))) := ⟨da_ HB6.out (aa_ (aa_ (Below.refl _ _) _) _)⟩
 clear hg6
 go_wp2_with fail
 refine (nb_ 4 (some ⟨W6.heap.size, 0, none⟩) 3 3 9 (some ⟨W6.heap.size + 1, 0, none⟩) 2 2 0 ((W6.alloc (.cells #[.int .i64 (-1), .int .i64 (-53), .int .i64 (-1)] 3)).alloc (.cells #[.int .i64 0, .int .i64 2] 3))).mono ?_
 rintro e W7 ⟨rfl, hb⟩
 have RL7 := aM_ (RA6.out.below hb)
 have HB7 := aM_ (da_ BA6.out hb)
 clear hb RA6 BA6 RL6 HB6
 generalize W6.heap.size = s6 at *
 have hg7 := HB7.out.size
 have RA7 : Az (RLits ((W7.alloc (.cells #[.int .i64 (-1), .int .i64 (-54), .int .i64 (-1)] 3)).alloc (.cells #[.int .i64 0, .int .i64 2] 3)) w.heap.size _) := ⟨RL7.out.snoc (aa_ (aa_ (Below.refl _ _) _) _) (⟨4, [(-1), (-54), (-1)], ⟨10, [0, 2]⟩, 1⟩ : db_) W7.heap.size (W7.heap.size + 1) (ta_ (oa_ W7 _)) (gb_ Tt_) ⟨Td_, Td_⟩ (.inr ⟨Nat.le_refl _, Nat.le_succ _⟩)⟩
 have BA7 : Az (Below w.heap.size w ((W7.alloc (.cells #[.int .i64 (-1), .int .i64 (-54), .int .i64 (-1)] 3)).alloc (.cells #[.int .i64 0, .int .i64 2] 3))) := ⟨da_ HB7.out (aa_ (aa_ (Below.refl _ _) _) _)⟩
 clear hg7
 go_wp2_with fail
 refine (nb_ 4 (some ⟨W7.heap.size, 0, none⟩) 3 3 10 (some ⟨W7.heap.size + 1, 0, none⟩) 2 2 1 ((W7.alloc (.cells #[.int .i64 (-1), .int .i64 (-54), .int .i64 (-1)] 3)).alloc (.cells #[.int .i64 0, .int .i64 2] 3))).mono ?_
 rintro e W8 ⟨rfl, hb⟩
 have RL8 := aM_ (RA7.out.below hb)
 have HB8 := aM_ (da_ BA7.out hb)
 clear hb RA7 BA7 RL7 HB7
 generalize W7.heap.size = s7 at *
 have hg8 := HB8.out.size
 have RA8 : Az (RLits ((W8.alloc (.cells #[.int .i64 (-52), .int .i64 4] 3)).alloc (.cells #[.int .i64 1] 3)) w.heap.size _) := ⟨RL8.out.snoc (aa_ (aa_ (Below.refl _ _) _) _) (⟨4, [(-52), 4], ⟨11, [1]⟩, 1⟩ : db_) W8.heap.size (W8.heap.size + 1) (ta_ (oa_ W8 _)) (gb_ Tt_) ⟨Td_, Td_⟩ (.inr ⟨Nat.le_refl _, Nat.le_succ _⟩)⟩
 have BA8 : Az (Below w.heap.size w ((W8.alloc (.cells #[.int .i64 (-52), .int .i64 4] 3)).alloc (.cells #[.int .i64 1] 3))) := ⟨da_ HB8.out (aa_ (aa_ (Below.refl _ _) _) _)⟩
 clear hg8
 go_wp2_with fail
 refine (nb_ 4 (some ⟨W8.heap.size, 0, none⟩) 2 2 11 (some ⟨W8.heap.size + 1, 0, none⟩) 1 1 1 ((W8.alloc (.cells #[.int .i64 (-52), .int .i64 4] 3)).alloc (.cells #[.int .i64 1] 3))).mono ?_
 rintro e W9 ⟨rfl, hb⟩
 have RL9 := aM_ (RA8.out.below hb)
 have HB9 := aM_ (da_ BA8.out hb)
 clear hb RA8 BA8 RL8 HB8
 generalize W8.heap.size = s8 at *
 have hg9 := HB9.out.size
 have RA9 : Az (RLits ((W9.alloc (.cells #[.int .i64 (-7), .int .i64 4] 3)).alloc (.cells #[.int .i64 0, .int .i64 1] 3)) w.heap.size _) := ⟨RL9.out.snoc (aa_ (aa_ (Below.refl _ _) _) _) (⟨5, [(-7), 4], ⟨12, [0, 1]⟩, 0⟩ : db_) W9.heap.size (W9.heap.size + 1) (ta_ (oa_ W9 _)) (gb_ Tt_) ⟨Td_, Td_⟩ (.inr ⟨Nat.le_refl _, Nat.le_succ _⟩)⟩
 have BA9 : Az (Below w.heap.size w ((W9.alloc (.cells #[.int .i64 (-7), .int .i64 4] 3)).alloc (.cells #[.int .i64 0, .int .i64 1] 3))) := ⟨da_ HB9.out (aa_ (aa_ (Below.refl _ _) _) _)⟩
 clear hg9
 go_wp2_with fail
 refine (nb_ 5 (some ⟨W9.heap.size, 0, none⟩) 2 2 12 (some ⟨W9.heap.size + 1, 0, none⟩) 2 2 0 ((W9.alloc (.cells #[.int .i64 (-7), .int .i64 4] 3)).alloc (.cells #[.int .i64 0, .int .i64 1] 3))).mono ?_
 rintro e W10 ⟨rfl, hb⟩
 have RL10 := aM_ (RA9.out.below hb)
 have HB10 := aM_ (da_ BA9.out hb)
 clear hb RA9 BA9 RL9 HB9
 generalize W9.heap.size = s9 at *
 have hg10 := HB10.out.size
 have RA10 : Az (RLits ((W10.alloc (.cells #[.int .i64 4, .int .i64 (-7)] 3)).alloc (.cells #[.int .i64 1, .int .i64 0] 3)) w.heap.size _) := ⟨RL10.out.snoc (aa_ (aa_ (Below.refl _ _) _) _) (⟨5, [4, (-7)], ⟨12, [1, 0]⟩, 0⟩ : db_) W10.heap.size (W10.heap.size + 1) (ta_ (oa_ W10 _)) (gb_ Tt_) ⟨Td_, Td_⟩ (.inr ⟨Nat.le_refl _, Nat.le_succ _⟩)⟩
 have BA10 : Az (Below w.heap.size w ((W10.alloc (.cells #[.int .i64 4, .int .i64 (-7)] 3)).alloc (.cells #[.int .i64 1, .int .i64 0] 3))) := ⟨da_ HB10.out (aa_ (aa_ (Below.refl _ _) _) _)⟩
 clear hg10
 go_wp2_with fail
 refine (nb_ 5 (some ⟨W10.heap.size, 0, none⟩) 2 2 12 (some ⟨W10.heap.size + 1, 0, none⟩) 2 2 0 ((W10.alloc (.cells #[.int .i64 4, .int .i64 (-7)] 3)).alloc (.cells #[.int .i64 1, .int .i64 0] 3))).mono ?_
 rintro e W11 ⟨rfl, hb⟩
 have RL11 := aM_ (RA10.out.below hb)
 have HB11 := aM_ (da_ BA10.out hb)
 clear hb RA10 BA10 RL10 HB10
 generalize W10.heap.size = s10 at *
 have hg11 := HB11.out.size
 have RA11 : Az (RLits ((W11.alloc (.cells #[.int .i64 (-1), .int .i64 (-8)] 3)).alloc (.cells #[.int .i64 0, .int .i64 1] 3)) w.heap.size _) := ⟨RL11.out.snoc (aa_ (aa_ (Below.refl _ _) _) _) (⟨9, [(-1), (-8)], ⟨13, [0, 1]⟩, 0⟩ : db_) W11.heap.size (W11.heap.size + 1) (ta_ (oa_ W11 _)) (gb_ Tt_) ⟨Td_, Td_⟩ (.inr ⟨Nat.le_refl _, Nat.le_succ _⟩)⟩
 have BA11 : Az (Below w.heap.size w ((W11.alloc (.cells #[.int .i64 (-1), .int .i64 (-8)] 3)).alloc (.cells #[.int .i64 0, .int .i64 1] 3))) := ⟨da_ HB11.out (aa_ (aa_ (Below.refl _ _) _) _)⟩
 clear hg11
 go_wp2_with fail
 refine (nb_ 9 (some ⟨W11.heap.size, 0, none⟩) 2 2 13 (some ⟨W11.heap.size + 1, 0, none⟩) 2 2 0 ((W11.alloc (.cells #[.int .i64 (-1), .int .i64 (-8)] 3)).alloc (.cells #[.int .i64 0, .int .i64 1] 3))).mono ?_
 rintro e W12 ⟨rfl, hb⟩
 have RL12 := aM_ (RA11.out.below hb)
 have HB12 := aM_ (da_ BA11.out hb)
 clear hb RA11 BA11 RL11 HB11
 generalize W11.heap.size = s11 at *
 have hg12 := HB12.out.size
 have RA12 : Az (RLits ((W12.alloc (.cells #[.int .i64 9] 3)).alloc (.cells #[.int .i64 0] 3)) w.heap.size _) := ⟨RL12.out.snoc (aa_ (aa_ (Below.refl _ _) _) _) (⟨6, [9], ⟨0, [0]⟩, 0⟩ : db_) W12.heap.size (W12.heap.size + 1) (ta_ (oa_ W12 _)) (gb_ Tt_) ⟨Td_, Td_⟩ (.inr ⟨Nat.le_refl _, Nat.le_succ _⟩)⟩
 have BA12 : Az (Below w.heap.size w ((W12.alloc (.cells #[.int .i64 9] 3)).alloc (.cells #[.int .i64 0] 3))) := ⟨da_ HB12.out (aa_ (aa_ (Below.refl _ _) _) _)⟩
 clear hg12
 go_wp2_with fail
 refine (nb_ 6 (some ⟨W12.heap.size, 0, none⟩) 1 1 0 (some ⟨W12.heap.size + 1, 0, none⟩) 1 1 0 ((W12.alloc (.cells #[.int .i64 9] 3)).alloc (.cells #[.int .i64 0] 3))).mono ?_
 rintro e W13 ⟨rfl, hb⟩
 have RL13 := aM_ (RA12.out.below hb)
 have HB13 := aM_ (da_ BA12.out hb)
 clear hb RA12 BA12 RL12 HB12
 generalize W12.heap.size = s12 at *
 have hg13 := HB13.out.size
 have RA13 : Az (RLits ((W13.alloc (.cells #[.int .i64 6, .int .i64 9] 3)).alloc (.cells #[.int .i64 0, .int .i64 1] 3)) w.heap.size _) := ⟨RL13.out.snoc (aa_ (aa_ (Below.refl _ _) _) _) (⟨6, [6, 9], ⟨14, [0, 1]⟩, 1⟩ : db_) W13.heap.size (W13.heap.size + 1) (ta_ (oa_ W13 _)) (gb_ Tt_) ⟨Td_, Td_⟩ (.inr ⟨Nat.le_refl _, Nat.le_succ _⟩)⟩
 have BA13 : Az (Below w.heap.size w ((W13.alloc (.cells #[.int .i64 6, .int .i64 9] 3)).alloc (.cells #[.int .i64 0, .int .i64 1] 3))) := ⟨da_ HB13.out (aa_ (aa_ (Below.refl _ _) _) _)⟩
 clear hg13
 go_wp2_with fail
 refine (nb_ 6 (some ⟨W13.heap.size, 0, none⟩) 2 2 14 (some ⟨W13.heap.size + 1, 0, none⟩) 2 2 1 ((W13.alloc (.cells #[.int .i64 6, .int .i64 9] 3)).alloc (.cells #[.int .i64 0, .int .i64 1] 3))).mono ?_
 rintro e W14 ⟨rfl, hb⟩
 have RL14 := aM_ (RA13.out.below hb)
 have HB14 := aM_ (da_ BA13.out hb)
 clear hb RA13 BA13 RL13 HB13
 generalize W13.heap.size = s13 at *
 have hg14 := HB14.out.size
 have RA14 : Az (RLits ((W14.alloc (.cells #[.int .i64 1, .int .i64 (-9), .int .i64 1] 3)).alloc (.cells #[.int .i64 0, .int .i64 2] 3)) w.heap.size _) := ⟨RL14.out.snoc (aa_ (aa_ (Below.refl _ _) _) _) (⟨7, [1, (-9), 1], ⟨15, [0, 2]⟩, 0⟩ : db_) W14.heap.size (W14.heap.size + 1) (ta_ (oa_ W14 _)) (gb_ Tt_) ⟨Td_, Td_⟩ (.inr ⟨Nat.le_refl _, Nat.le_succ _⟩)⟩
 have BA14 : Az (Below w.heap.size w ((W14.alloc (.cells #[.int .i64 1, .int .i64 (-9), .int .i64 1] 3)).alloc (.cells #[.int .i64 0, .int .i64 2] 3))) := ⟨da_ HB14.out (aa_ (aa_ (Below.refl _ _) _) _)⟩
 clear hg14
 go_wp2_with fail
 refine (nb_ 7 (some ⟨W14.heap.size, 0, none⟩) 3 3 15 (some ⟨W14.heap.size + 1, 0, none⟩) 2 2 0 ((W14.alloc (.cells #[.int .i64 1, .int .i64 (-9), .int .i64 1] 3)).alloc (.cells #[.int .i64 0, .int .i64 2] 3))).mono ?_
 rintro e W15 ⟨rfl, hb⟩
 have RL15 := aM_ (RA14.out.below hb)
 have HB15 := aM_ (da_ BA14.out hb)
 clear hb RA14 BA14 RL14 HB14
 generalize W14.heap.size = s14 at *
 have h15 : RLits W15 w.heap.size [((⟨2, [(-1), (-55), (-1)], ⟨3, [0, 2]⟩, 0⟩ : db_), s0, s0 + 1), ((⟨2, [(-1), (-55), (-1), (-55), (-1)], ⟨3, [0, 2, 4]⟩, 0⟩ : db_), s1, s1 + 1), ((⟨2, [(-1), (-6)], ⟨4, [0, 1]⟩, 1⟩ : db_), s2, s2 + 1), ((⟨2, [(-1), (-55), (-1), (-6)], ⟨4, [0, 2, 3]⟩, 0⟩ : db_), s3, s3 + 1), ((⟨3, [1, 2], ⟨5, [0, 1]⟩, 0⟩ : db_), s4, s4 + 1), ((⟨4, [(-1)], ⟨8, [0]⟩, 0⟩ : db_), s5, s5 + 1), ((⟨4, [(-1), (-53), (-1)], ⟨9, [0, 2]⟩, 0⟩ : db_), s6, s6 + 1), ((⟨4, [(-1), (-54), (-1)], ⟨10, [0, 2]⟩, 1⟩ : db_), s7, s7 + 1), ((⟨4, [(-52), 4], ⟨11, [1]⟩, 1⟩ : db_), s8, s8 + 1), ((⟨5, [(-7), 4], ⟨12, [0, 1]⟩, 0⟩ : db_), s9, s9 + 1), ((⟨5, [4, (-7)], ⟨12, [1, 0]⟩, 0⟩ : db_), s10, s10 + 1), ((⟨9, [(-1), (-8)], ⟨13, [0, 1]⟩, 0⟩ : db_), s11, s11 + 1), ((⟨6, [9], ⟨0, [0]⟩, 0⟩ : db_), s12, s12 + 1), ((⟨6, [6, 9], ⟨14, [0, 1]⟩, 1⟩ : db_), s13, s13 + 1), ((⟨7, [1, (-9), 1], ⟨15, [0, 2]⟩, 0⟩ : db_), s14, s14 + 1)] := RL15.out
 have hS := qt_ _ h15 HB15.out.size Tt_ Tt_
 simp only [List.flatMap_cons, List.flatMap_nil, encR, List.cons_append, List.nil_append, List.append_nil, List.length_cons, List.length_nil, Nat.zero_add, Nat.reduceAdd, List.map_cons, List.map_nil] at hS
 have HS := aM_ hS
 clear hS h15
 have HSU : Az (Kd.S k56 56 _ w.heap.size (fun _ => True) _ (ae_ 0)) := ⟨HS.out⟩
 have HBU : Az (∀ cs : Array Value, Below w.heap.size w (W15.alloc (.cells cs 56))) := ⟨fun cs => aa_ HB15.out _⟩
 go_wp2
 go_loopg [1, 2] 7 (fun gg s1 s2 wr => ∃ i : Nat, i ≤ 7 ∧ 7 - i ≤ gg ∧ s2 = .int .i64 ((i : Int) + 1) ∧ Az (Kd.S k56 56 wr w.heap.size (fun _ => True) s1 (ae_ i)) ∧ Az (Below w.heap.size w wr))
 case atStart => exact ⟨0, Td_, Td_, rfl, HSU, ⟨HBU.out _⟩⟩
 clear HSU HBU HS RL15 HB15
 obtain ⟨i, hi, hgg, rfl, HS, HB⟩ := hrel
 obtain ⟨Ao, co, rfl⟩ := Kd.S_slice HS.out
 by_cases hil : i < 7
 ·have hilz : (i : Int) + 1 < 8 := by omega
  have hbs := HB.out.size; obtain ⟨s, hs⟩ : ∃ s, wr.heap.size = s := ⟨_, rfl⟩; have HSS := aM_ hs; have hl1 : ((wr.alloc (.cells #[.int .i64 ((i : Int) + 1)] 3)).alloc (.cells #[.int .i64 0] 3)).heap[s]? = some (.cells ([(i : Int) + 1].map (Value.int .i64)).toArray 3 (0, 0)) := ta_ (gb_ hs); have hl2 : ((wr.alloc (.cells #[.int .i64 ((i : Int) + 1)] 3)).alloc (.cells #[.int .i64 0] 3)).heap[s + 1]? = some (.cells ([0].map (Value.int .i64)).toArray 3 (0, 0)) := gb_ (by simp [hs]); have HL1 := aM_ hl1; have HL2 := aM_ hl2; have HB1 := aM_ (aa_ (aa_ (Below.refl wr.heap.size wr) (.cells #[.int .i64 ((i : Int) + 1)] 3)) (.cells #[.int .i64 0] 3)); have hsz : ((wr.alloc (.cells #[.int .i64 ((i : Int) + 1)] 3)).alloc (.cells #[.int .i64 0] 3)).heap.size = s + 2 := by simp [hs]
  clear hl1 hl2
  go_wp2_with fail
  refine (nb_ 0 (some ⟨s, 0, none⟩) 1 1 0 (some ⟨s + 1, 0, none⟩) 1 1 (((i : Int) + 1) % 3) _).mono ?_; rintro e W2 ⟨rfl, hb⟩; have hbw := da_ HB1.out hb; have HS2 : Az (Kd.S k56 56 W2 w.heap.size (fun k => True ∧ ¬ s ≤ k) (.slice Ao (ae_ i).length co) (ae_ i)) := ⟨Kd.S_below (Kd.S_mono (Kd.S_bound HS.out) (fun k hk => ⟨trivial, by have := hk.2.2.1; omega⟩)) hbw⟩
  have HP2 : Az (k56.M W2 w.heap.size (fun k => s ≤ k) (mq_ ((i : Int) + 1)) [.int .i64 0, .slice (some ⟨s, 0, none⟩) 1 1, .int .i64 0, .slice (some ⟨s + 1, 0, none⟩) 1 1, .int .i64 (((i : Int) + 1) % 3)]) :=
   ⟨ol_ W2 w.heap.size _ (mq_ ((i : Int) + 1)) (lit_R (xs := [(i : Int) + 1]) (la_ HL1.out hb) Td_ Tt_ (Nat.le_refl _)) (lit_R (xs := [0]) (la_ HL2.out hb) Td_ Tm_ (Nat.le_succ _))⟩
  have HB2 := aM_ (da_ HB.out hbw); have hown : ∀ k, s ≤ k → True ∧ some k ≠ (Value.slice Ao (ae_ i).length co).ownBlock := fun k hk => ⟨trivial, fun e => by have := Kd.S_lt HS.out k e.symm; omega⟩
  have HOWN := aM_ hown; have hlen := fp_ i; have HSN := aM_ (nn_ i); have HLL := aM_ hlen; generalize ae_ i = ou at *; clear hb hbw HB1 HL1 HL2 hown hsz HB HS hlen; have hlen : ou.length ≤ 30 := by have := HLL.out; omega
  go_wp2_with (at_builtin; go_loud (refine Kd.S_append k56 (w0 := w) w.heap.size rfl (.tmp 53) (.tmp 60) 41 56 (.agg #[.int .i64 0, .slice none 0 0, .int .i64 0, .slice none 0 0, .int .i64 0]) 72 rfl Tryz.underlying41 mm_ rfl Wh_ Tm_ (.slice Ao ou.length co) ou (mq_ ((i : Int) + 1)) [.int .i64 0, .slice (some ⟨s, 0, none⟩) 1 1, .int .i64 0, .slice (some ⟨s + 1, 0, none⟩) 1 1, .int .i64 (((i : Int) + 1) % 3)] (fun _ => True) (fun k => s ≤ k) rfl rfl HP2.out HOWN.out (fun _ _ => trivial) HS2.out HB2.out HB2.out.size Td_ ?_); intro v1 w5 ho hb5 hg hat; have HO5 := aM_ ho; have HB5 := aM_ hb5; clear ho hb5 hg hat)
  go_roundg (7 - (i + 1))
  case measure => omega
  case rel => exact ⟨i + 1, Td_, Td_, Va_, ⟨by rw [HSN.out]; exact HO5.out⟩, HB5⟩
 have hilz : decide ((i : Int) + 1 < 8) = false := by simp; omega
 have he : xd_ = ae_ i := by rw [show i = 7 by omega]; rfl
 have HE := aM_ he
 clear he
 go_wp2
 go_ret
 rw [HW0.out]
 exact ⟨_, rfl, by rw [HE.out]; exact HS.out, HB.out⟩
noncomputable def l5_others.f : Option (List db_) := some xd_
theorem l5_others.calls (r : List db_) (w : World) (h : l5_others.f = some r) : Calls Tryz.prog 26 #[] w fun e w' => ∃ v0_ : Value, e = .returned (v0_) ∧ Kd.S k56 56 w' w.heap.size (fun _ => True) v0_ r ∧ Below w.heap.size w w' := by
 obtain rfl := Option.some.inj h
 exact rj_ w
def num5 (f w : Int) : S48 := ⟨1, ⟨#[]⟩, f, w, 0⟩
def txt5 (s : BA) : S48 := ⟨0, s, 0, 0, 0⟩
def wrd5 (f c : Int) : S48 := ⟨2, ⟨#[]⟩, f, 0, c⟩
def dayP : List S48 := [num5 0 4, txt5 ⟨#[45]⟩, num5 1 2, txt5 ⟨#[45]⟩, num5 2 2]
def oh_ : List S48 := [num5 0 2, txt5 ⟨#[58]⟩, num5 1 2, txt5 ⟨#[58]⟩, num5 2 2]
def di_ : List S48 := [txt5 ⟨#[32]⟩, num5 3 2, txt5 ⟨#[58]⟩, num5 4 2, txt5 ⟨#[58]⟩, num5 5 2]
def uh_ : List S48 := [txt5 ⟨#[32, 116, 111, 32]⟩, num5 3 4, txt5 ⟨#[45]⟩, num5 4 2, txt5 ⟨#[45]⟩, num5 5 2]
def kk_ : List S48 := [num5 1 0, txt5 ⟨#[46]⟩, num5 2 0, txt5 ⟨#[32]⟩, wrd5 0 6]
def po_ : List S48 := [num5 0 0, txt5 ⟨#[46]⟩, num5 1 1]
def durP : List S48 := [num5 0 0, txt5 ⟨#[32, 115]⟩]
def jm_ : List S48 := [num5 2 0, txt5 ⟨#[32]⟩, wrd5 1 1, txt5 ⟨#[32]⟩, num5 0 4]
def ff_ : List S52 := [⟨4, dayP⟩, ⟨5, oh_⟩, ⟨6, dayP ++ di_⟩, ⟨7, po_⟩, ⟨8, kk_⟩, ⟨9, durP⟩, ⟨10, dayP ++ uh_⟩, ⟨4, jm_⟩]
def vd_ (x : S48) : List Value := [.int .i64 x.f0, .string x.f1, .int .i64 x.f2, .int .i64 x.f3, .int .i64 x.f4]
theorem part_any {W W' : World} {b' : Nat} {ok' : Nat → Prop} {x : S48} {cs : List Value} (h : k48.K W x cs) : k48.M W' b' ok' x cs := (cr_ h) ▸ mp_ W' b' ok' x
theorem zr_ (W : World) (b : Nat) (ok : Nat → Prop) (xs : List S48) : Reps (k48.M W b ok) k48.sz xs (xs.flatMap vd_) :=
 ⟨eg_ vd_ 5 (fun _ => rfl) xs, fun j x hx => by
  show k48.M W b ok x (((xs.flatMap vd_).drop (j * 5)).take 5); rw [ql_ vd_ 5 (fun _ => rfl) xs j x hx]
  exact mp_ W b ok x⟩
theorem yh_ {W : World} {base : Nat} (xs : List S48) (hb : base ≤ W.heap.size) (hn : xs.length ≤ 1000) : Kd.R k48 48 (W.alloc (.cells (xs.flatMap vd_).toArray 48)) base (fun k => W.heap.size ≤ k) (.slice (some ⟨W.heap.size, 0, none⟩) xs.length xs.length) xs := by
 refine ⟨fun k hk => ?_, xs.flatMap vd_, ?_, zr_ _ _ _ xs⟩
 ·have h : W.heap.size = k := by simpa [Value.ownBlock] using hk
  omega
 have h2 := World.ownsRow_lit (base := base) (e := 48) (size := 5) W (xs.flatMap vd_).toArray xs.length hb (by simp [maxLen]; omega) (by simpa using eg_ vd_ 5 (fun _ => rfl) xs)
 show World.ownsRow _ _ _ 5 _ _ _
 simpa using h2
structure StW (w W : World) (Rs : List (List S48 × Value × Nat × Nat)) : Prop where
 below : Below w.heap.size w W
 rows : ∀ r ∈ Rs, Kd.R k48 48 W w.heap.size (fun k => r.2.2.1 ≤ k ∧ k < r.2.2.2) r.2.1 r.1
 up : Rs.Pairwise fun x y => x.2.2.2 ≤ y.2.2.1
 top : ∀ r ∈ Rs, r.2.2.2 ≤ W.heap.size
theorem StW.base {w W : World} {Rs : List (List S48 × Value × Nat × Nat)} (h : StW w W Rs) : w.heap.size ≤ W.heap.size := h.below.size
theorem StW.nil (w : World) : StW w w [] := ⟨Below.refl _ _, Tt_, List.Pairwise.nil, Tt_⟩
theorem StW.step {w W W1 : World} {Rs : List (List S48 × Value × Nat × Nat)} (h : StW w W Rs) (hb : Below W.heap.size W W1) : StW w W1 Rs :=
 ⟨da_ h.below hb, fun r hr => Kd.R_below (h.rows r hr) hb, h.up, fun r hr => Nat.le_trans (h.top r hr) hb.size⟩
theorem StW.snoc {w W : World} {Rs : List (List S48 × Value × Nat × Nat)} (h : StW w W Rs) {xs : List S48} {v : Value} {lo : Nat} (ht : ∀ r ∈ Rs, r.2.2.2 ≤ lo) (hv : Kd.R k48 48 W w.heap.size (fun k => lo ≤ k) v xs) : StW w W (Rs ++ [(xs, v, lo, W.heap.size)]) := by
 refine ⟨h.below, fun r hr => ?_, List.pairwise_append.2 ⟨h.up, List.pairwise_singleton _ _, fun r hr q hq => ?_⟩, fun r hr => ?_⟩
 ·rcases List.mem_append.1 hr with hr | hr
  ·exact h.rows r hr
  rw [List.mem_singleton.1 hr]; exact Kd.R_mono (Kd.R_bound hv) (fun k hk => ⟨hk.1, hk.2.2.1⟩)
 ·rw [List.mem_singleton.1 hq]
  exact ht r hr
 rcases List.mem_append.1 hr with hr | hr
 ·exact h.top r hr
 rw [List.mem_singleton.1 hr]
 exact Nat.le_refl _
theorem StW.lit {w W : World} {Rs : List (List S48 × Value × Nat × Nat)} (h : StW w W Rs) (xs : List S48) (hn : xs.length ≤ 1000) :
  StW w (W.alloc (.cells (xs.flatMap vd_).toArray 48)) (Rs ++ [(xs, .slice (some ⟨W.heap.size, 0, none⟩) xs.length xs.length, W.heap.size, (W.alloc (.cells (xs.flatMap vd_).toArray 48)).heap.size)]) :=
 (h.step (aa_ (Below.refl _ _) _)).snoc h.top (yh_ xs h.base hn)
section
variable {ops : Array Oper} {rest : List Oper} {o : Oper} {a : Act} {Q : Exit → Act → World → Prop}
theorem qj_ {w W : World} (lo : Nat) (Rs : List (List S48 × Value × Nat × Nat)) (ys : List S48) (A : Option Addr) (m c : Nat) {okr : Nat → Prop} (hgd : o.guard = none) (s x : Operand) (ho : o.op = .call { callee := .builtin .append, args := #[s, x], argTypes := #[50, 50] })
  {v : Value} {xs : List S48} (hs : a.eval s = v) (hx : a.eval x = .slice A m c) (HS : StW w W Rs) (HT : ∀ r ∈ Rs, r.2.2.2 ≤ lo) (hb0 : w.heap.size ≤ lo) (hlo : lo ≤ W.heap.size) (HO : Kd.R k48 48 W w.heap.size (fun k => lo ≤ k) v xs)
  (HR : Kd.R k48 48 W w.heap.size okr (.slice A m c) ys) (hl : xs.length + ys.length ≤ 1000)
  (h : ∀ v1 w1, Kd.R k48 48 w1 w.heap.size (fun k => lo ≤ k) v1 (xs ++ ys) → StW w w1 Rs → lo ≤ w1.heap.size → wpList Tryz.prog ops Q rest (a.put o.dst v1) w1) : wpList Tryz.prog ops Q (o :: rest) a W := by
 obtain ⟨A1, c1, e1, hc, hrr⟩ := Kd.R_reads HR
 injection e1 with e1 e2 e3
 subst e1
 subst e2
 subst e3
 refine Kd.R_append_rows k48 (w0 := w) w.heap.size hgd s x 50 48 (.agg #[.int .i64 0, .string ⟨#[]⟩, .int .i64 0, .int .i64 0, .int .i64 0]) 48 ho Tryz.underlying50 Ti_ rfl Wh_ Tm_ v xs ys A ys.length c (fun k => lo ≤ k) (fun _ => False) hs hx HO hrr (fun x cs h => part_any h) (fun _ h => h.elim) (fun k hk => Nat.le_trans hlo hk) HS.below HS.base Td_ ?_
 intro v1 w1 ho1 hb1 hg hat
 refine h v1 w1 ho1 ⟨hb1, fun r hr => Kd.R_grown (HS.rows r hr) hg (fun k hk he => ?_), HS.up, fun r hr => Nat.le_trans (HS.top r hr) hg.size⟩ (Nat.le_trans hlo hg.size)
 have h1 := HO.1 k he.symm
 have h2 := HT r hr
 have h3 := hk.2
 simp only at h1
 omega
end
def zi_ (r : S52 × Value × Nat × Nat) : List Value := [.int .i64 r.1.f0, r.2.1]
theorem perm5 {α : Type} (x m u s l : α) : [x, m, u, s, l].Perm [s, m, x, u, l] := ((List.perm_append_comm (l₁ := [x, m, u]) (l₂ := [s])).append_right [l]).trans ((List.Perm.swap m x [u, l]).cons s)
theorem apart_of {Rs Ss : List (List S48 × Value × Nat × Nat)} (h : Rs.Pairwise fun x y => x.2.2.2 ≤ y.2.2.1) (hp : Ss.Perm Rs) (i j : Nat) (x y : List S48 × Value × Nat × Nat) (hx : Ss[i]? = some x) (hy : Ss[j]? = some y) (k : Nat) (h1 : x.2.2.1 ≤ k ∧ k < x.2.2.2) (h2 : y.2.2.1 ≤ k ∧ k < y.2.2.2) : i = j := by
 have h3 : Rs.Pairwise fun x y : List S48 × Value × Nat × Nat => ∀ k, ¬ ((x.2.2.1 ≤ k ∧ k < x.2.2.2) ∧ (y.2.2.1 ≤ k ∧ k < y.2.2.2)) := h.imp (fun hxy k hk => by omega)
 have h4 := (hp.pairwise_iff (fun {x y} hxy k hk => hxy k ⟨hk.2, hk.1⟩)).2 h3
 obtain ⟨hi, ei⟩ := List.getElem?_eq_some_iff.1 hx
 obtain ⟨hj, ej⟩ := List.getElem?_eq_some_iff.1 hy
 rcases Nat.lt_trichotomy i j with hij | hij | hij
 ·have := List.pairwise_iff_getElem.1 h4 i j hi hj hij k
  rw [ei, ej] at this; exact absurd ⟨h1, h2⟩ this
 ·exact hij
 have := List.pairwise_iff_getElem.1 h4 j i hj hi hij k
 rw [ei, ej] at this
 exact absurd ⟨h2, h1⟩ this
theorem styles_S {w W : World} {Rs : List (List S48 × Value × Nat × Nat)} (h : StW w W Rs) (Ss : List (S52 × Value × Nat × Nat)) (hp : (Ss.map fun r => (r.1.f1, r.2)).Perm Rs) (hn : Ss.length ≤ 1000) :
  Kd.S k52 52 (W.alloc (.cells (Ss.flatMap zi_).toArray 52)) w.heap.size (fun _ => True) (.slice (some ⟨W.heap.size, 0, none⟩) Ss.length Ss.length) (Ss.map (·.1)) := by
 have hm : ∀ r ∈ Ss, (r.1.f1, r.2) ∈ Rs := fun r hr => hp.mem_iff.1 (List.mem_map.2 ⟨r, hr, rfl⟩)
 obtain ⟨f, hrep⟩ := Kd.reps_tag (d := k52) (w := W) (base := w.heap.size) (ok := fun k => k < W.heap.size) (xs := Ss.map (·.1)) (inner := Ss.flatMap zi_) (fun j k => ∃ x, Ss[j]? = some x ∧ x.2.2.1 ≤ k ∧ k < x.2.2.2)
  (fun i j k ⟨x, hx, h1⟩ ⟨y, hy, h2⟩ => apart_of h.up hp i j (x.1.f1, x.2) (y.1.f1, y.2) (by rw [List.getElem?_map, hx]; rfl) (by rw [List.getElem?_map, hy]; rfl) k h1 h2)
  (fun j k ⟨x, hx, h1⟩ => Nat.lt_of_lt_of_le h1.2 (h.top _ (hm x (List.mem_of_getElem? hx))))
  (by rw [List.length_map]; exact eg_ zi_ 2 (fun _ => rfl) Ss)
  (fun j x hx => by
   rw [List.getElem?_map] at hx; obtain ⟨r, hr, rfl⟩ := Option.map_eq_some_iff.1 hx; show k52.M W w.heap.size _ r.1 (((Ss.flatMap zi_).drop (j * 2)).take 2); rw [ql_ zi_ 2 (fun _ => rfl) Ss j r hr]
   exact lp_ W w.heap.size _ r.1 (Kd.R_mono (h.rows _ (hm r (List.mem_of_getElem? hr))) (fun k hk => ⟨r, hr, hk⟩)))
 refine ⟨f, fun k _ => trivial, Ss.flatMap zi_, ?_, ?_⟩
 ·have h2 := World.ownsRow_lit (base := w.heap.size) (e := 52) (size := 2) W (Ss.flatMap zi_).toArray Ss.length h.base (by simp [maxLen]; omega) (by simpa using eg_ zi_ 2 (fun _ => rfl) Ss)
  have h3 : (Ss.map (·.1)).zipIdx.length = Ss.length := by simp
  rw [h3]; show (W.alloc (.cells (Ss.flatMap zi_).toArray 52)).ownsRow w.heap.size 52 2 _ _ _
  simpa using h2
 refine hrep.imp_ (fun p c hp => (Kd.tag f k52).M_mono (fun k hk => ⟨trivial, fun he => ?_⟩) (Kd.M_below ((Kd.tag f k52).M_bound hp) (aa_ (Below.refl _ _) _)))
 have h3 : k = W.heap.size := by simpa [Value.ownBlock] using he
 have := hk.2.2.1
 omega
theorem vb_ (a b : Int) (w : World) : Calls Tryz.prog 120 #[.int .i64 a, .int .i64 b] w fun e w' => e = .returned (.agg #[.int .i64 1, .string (⟨#[]⟩ : BA), .int .i64 a, .int .i64 b, .int .i64 0]) ∧ Below w.heap.size w w' := l5_number.calls a b 1 ⟨#[]⟩ a b 0 w rfl
theorem yc_ (a : BA) (w : World) : Calls Tryz.prog 121 #[.string a] w fun e w' => e = .returned (.agg #[.int .i64 0, .string a, .int .i64 0, .int .i64 0, .int .i64 0]) ∧ Below w.heap.size w w' := l5_text.calls a 0 a 0 0 0 w rfl
theorem vo_ (w : World) : Calls Tryz.prog 72 #[] w fun e w' => ∃ v : Value, e = .returned v ∧ Kd.S k52 52 w' w.heap.size (fun _ => True) v ff_ ∧ Below w.heap.size w w' := by
 obtain ⟨W0, hW0⟩ : ∃ W0, W0 = w := ⟨_, rfl⟩
 have ST : Az (StW w W0 []) := ⟨by rw [hW0]; exact StW.nil w⟩
 have HW0 := aM_ hW0
 go_enter Tryz.func72, Tryz.ntmps72
 rw [← HW0.out]
 clear hW0
 go_wp2_with fail
 refine (vb_ 0 4 _).mono ?_
 rintro e W1 ⟨rfl, hb⟩
 have ST1 := aM_ (ST.out.step hb)
 clear ST
 have ST := ST1
 clear ST1
 clear hb
 go_wp2_with fail
 refine (yc_ ⟨#[45]⟩ _).mono ?_
 rintro e W2 ⟨rfl, hb⟩
 have ST1 := aM_ (ST.out.step hb)
 clear ST
 have ST := ST1
 clear ST1
 clear hb
 go_wp2_with fail
 refine (vb_ 1 2 _).mono ?_
 rintro e W3 ⟨rfl, hb⟩
 have ST1 := aM_ (ST.out.step hb)
 clear ST
 have ST := ST1
 clear ST1
 clear hb
 go_wp2_with fail
 refine (yc_ ⟨#[45]⟩ _).mono ?_
 rintro e W4 ⟨rfl, hb⟩
 have ST1 := aM_ (ST.out.step hb)
 clear ST
 have ST := ST1
 clear ST1
 clear hb
 go_wp2_with fail
 refine (vb_ 2 2 _).mono ?_
 rintro e W5 ⟨rfl, hb⟩
 have ST1 := aM_ (ST.out.step hb)
 clear ST
 have ST := ST1
 clear ST1
 clear hb
 have ST1 : Az (∃ hi, StW w (W5.alloc (.cells (List.flatMap vd_ dayP).toArray 48)) (_ ++ [(dayP, .slice (some ⟨W5.heap.size, 0, none⟩) 5 5, W5.heap.size, hi)])) := ⟨_, ST.out.lit dayP Tm_⟩
 clear ST
 obtain ⟨q1, hq⟩ := ST1.out
 have ST := aM_ hq
 clear ST1 hq
 go_wp2_with fail
 refine (vb_ 0 2 _).mono ?_
 rintro e W6 ⟨rfl, hb⟩
 have ST1 := aM_ (ST.out.step hb)
 clear ST
 have ST := ST1
 clear ST1
 clear hb
 generalize W5.heap.size = z6 at *
 go_wp2_with fail
 refine (yc_ ⟨#[58]⟩ _).mono ?_
 rintro e W7 ⟨rfl, hb⟩
 have ST1 := aM_ (ST.out.step hb)
 clear ST
 have ST := ST1
 clear ST1
 clear hb
 go_wp2_with fail
 refine (vb_ 1 2 _).mono ?_
 rintro e W8 ⟨rfl, hb⟩
 have ST1 := aM_ (ST.out.step hb)
 clear ST
 have ST := ST1
 clear ST1
 clear hb
 go_wp2_with fail
 refine (yc_ ⟨#[58]⟩ _).mono ?_
 rintro e W9 ⟨rfl, hb⟩
 have ST1 := aM_ (ST.out.step hb)
 clear ST
 have ST := ST1
 clear ST1
 clear hb
 go_wp2_with fail
 refine (vb_ 2 2 _).mono ?_
 rintro e W10 ⟨rfl, hb⟩
 have ST1 := aM_ (ST.out.step hb)
 clear ST
 have ST := ST1
 clear ST1
 clear hb
 have ST1 : Az (∃ hi, StW w (W10.alloc (.cells (List.flatMap vd_ oh_).toArray 48)) (_ ++ [(oh_, .slice (some ⟨W10.heap.size, 0, none⟩) 5 5, W10.heap.size, hi)])) := ⟨_, ST.out.lit oh_ Tm_⟩
 clear ST
 obtain ⟨q2, hq⟩ := ST1.out
 have ST := aM_ hq
 clear ST1 hq
 have hs : (W10.alloc (.cells (List.flatMap vd_ oh_).toArray 48)).heap.size = W10.heap.size + 1 := Tt_
 have HT := aM_ (hs ▸ ST.out.top)
 have HL : Az (w.heap.size ≤ W10.heap.size + 1) := ⟨hs ▸ ST.out.base⟩
 have HV : Az (Kd.R k48 48 ((W10.alloc (.cells (List.flatMap vd_ oh_).toArray 48)).alloc (.cells #[] 48)) w.heap.size (fun k => W10.heap.size + 1 ≤ k) (.slice (some ⟨W10.heap.size + 1, 0, none⟩) 0 0) []) := ⟨hs ▸ yh_ [] ST.out.base Tm_⟩
 have ST1 := aM_ (ST.out.step (aa_ (Below.refl _ _) (.cells #[] 48)))
 clear ST
 have ST := ST1
 clear ST1
 have HZ : Az (W10.heap.size + 1 ≤ ((W10.alloc (.cells (List.flatMap vd_ oh_).toArray 48)).alloc (.cells #[] 48)).heap.size) := ⟨by rw [← hs]; simp⟩
 have HD := aM_ (ST.out.rows (dayP, _, _, _) (by simp only [List.nil_append, List.cons_append, List.mem_cons]; exact Or.inl rfl))
 clear hs
 go_wp2_with (at_builtin; (refine qj_ (w := w) (W10.heap.size + 1) _ dayP _ _ _ rfl (.tmp 18) (.tmp 19) rfl rfl rfl ST.out HT.out HL.out HZ.out (by have := HV.out; exact this) HD.out Tm_ ?_); intro v20 W11 hv hst hlo; have HV1 := aM_ hv; have ST1 := aM_ hst; have HZ1 := aM_ hlo; clear hv hst hlo HV ST HZ HD; have HV := HV1; have ST := ST1; have HZ := HZ1; clear HV1 ST1 HZ1)
 refine (yc_ ⟨#[32]⟩ _).mono ?_
 rintro e W12 ⟨rfl, hb⟩
 have ST1 := aM_ (ST.out.step hb)
 clear ST
 have ST := ST1
 clear ST1
 have HV1 := aM_ (Kd.R_below HV.out hb)
 clear HV
 have HV := HV1
 clear HV1
 have HZ1 := aM_ (Nat.le_trans HZ.out hb.size)
 clear HZ
 have HZ := HZ1
 clear HZ1
 clear hb
 go_wp2_with fail
 refine (vb_ 3 2 _).mono ?_
 rintro e W13 ⟨rfl, hb⟩
 have ST1 := aM_ (ST.out.step hb)
 clear ST
 have ST := ST1
 clear ST1
 have HV1 := aM_ (Kd.R_below HV.out hb)
 clear HV
 have HV := HV1
 clear HV1
 have HZ1 := aM_ (Nat.le_trans HZ.out hb.size)
 clear HZ
 have HZ := HZ1
 clear HZ1
 clear hb
 go_wp2_with fail
 refine (yc_ ⟨#[58]⟩ _).mono ?_
 rintro e W14 ⟨rfl, hb⟩
 have ST1 := aM_ (ST.out.step hb)
 clear ST
 have ST := ST1
 clear ST1
 have HV1 := aM_ (Kd.R_below HV.out hb)
 clear HV
 have HV := HV1
 clear HV1
 have HZ1 := aM_ (Nat.le_trans HZ.out hb.size)
 clear HZ
 have HZ := HZ1
 clear HZ1
 clear hb
 go_wp2_with fail
 refine (vb_ 4 2 _).mono ?_
 rintro e W15 ⟨rfl, hb⟩
 have ST1 := aM_ (ST.out.step hb)
 clear ST
 have ST := ST1
 clear ST1
 have HV1 := aM_ (Kd.R_below HV.out hb)
 clear HV
 have HV := HV1
 clear HV1
 have HZ1 := aM_ (Nat.le_trans HZ.out hb.size)
 clear HZ
 have HZ := HZ1
 clear HZ1
 clear hb
 go_wp2_with fail
 refine (yc_ ⟨#[58]⟩ _).mono ?_
 rintro e W16 ⟨rfl, hb⟩
 have ST1 := aM_ (ST.out.step hb)
 clear ST
 have ST := ST1
 clear ST1
 have HV1 := aM_ (Kd.R_below HV.out hb)
 clear HV
 have HV := HV1
 clear HV1
 have HZ1 := aM_ (Nat.le_trans HZ.out hb.size)
 clear HZ
 have HZ := HZ1
 clear HZ1
 clear hb
 go_wp2_with fail
 refine (vb_ 5 2 _).mono ?_
 rintro e W17 ⟨rfl, hb⟩
 have ST1 := aM_ (ST.out.step hb)
 clear ST
 have ST := ST1
 clear ST1
 have HV1 := aM_ (Kd.R_below HV.out hb)
 clear HV
 have HV := HV1
 clear HV1
 have HZ1 := aM_ (Nat.le_trans HZ.out hb.size)
 clear HZ
 have HZ := HZ1
 clear HZ1
 clear hb
 have HR : Az (Kd.R k48 48 (W17.alloc (.cells (List.flatMap vd_ di_).toArray 48)) w.heap.size (fun k => W17.heap.size ≤ k) (.slice (some ⟨W17.heap.size, 0, none⟩) 6 6) di_) := ⟨yh_ di_ ST.out.base Tm_⟩
 have ST1 := aM_ (ST.out.step (aa_ (Below.refl _ _) (.cells (List.flatMap vd_ di_).toArray 48)))
 clear ST
 have ST := ST1
 clear ST1
 have HV1 := aM_ (Kd.R_alloc HV.out (.cells (List.flatMap vd_ di_).toArray 48))
 clear HV
 have HV := HV1
 clear HV1
 have HZ1 := aM_ (Nat.le_trans HZ.out (na_ (aa_ (Below.refl _ W17) (.cells (List.flatMap vd_ di_).toArray 48))))
 clear HZ
 have HZ := HZ1
 clear HZ1
 go_wp2_with (first | (at_builtin; (refine qj_ (w := w) (W10.heap.size + 1) _ di_ _ _ _ rfl (.tmp 20) (.tmp 27) rfl rfl rfl ST.out HT.out HL.out HZ.out HV.out HR.out Tm_ ?_); intro v18 W18 hv hst hlo; (obtain ⟨A18, c18, e1, _⟩ : ∃ A c, v18 = .slice A 11 c ∧ True := (by obtain ⟨A, c, e, _⟩ := Kd.R_reads hv; exact ⟨A, c, e, trivial⟩)); subst e1; (obtain ⟨q3, hq⟩ : ∃ hi, StW w W18 (_ ++ [(dayP ++ di_, (.slice A18 11 c18), (W10.heap.size + 1), hi)]) := ⟨_, hst.snoc HT.out hv⟩); have ST1 := aM_ hq; clear hv hst hlo hq HV ST HZ HR HT HL; have ST := ST1; clear ST1) | (at_builtin; have hs : W18.heap.size = W18.heap.size := Vh_; have HT := aM_ (hs ▸ ST.out.top); have HL : Az (w.heap.size ≤ W18.heap.size) := ⟨hs ▸ ST.out.base⟩; have HV : Az (Kd.R k48 48 (W18.alloc (.cells #[] 48)) w.heap.size (fun k => W18.heap.size ≤ k) (.slice (some ⟨W18.heap.size, 0, none⟩) 0 0) []) := ⟨hs ▸ yh_ [] ST.out.base Tm_⟩; have ST1 := aM_ (ST.out.step (aa_ (Below.refl _ _) (.cells #[] 48))); clear ST; have ST := ST1; clear ST1; have HZ : Az (W18.heap.size ≤ (W18.alloc (.cells #[] 48)).heap.size) := ⟨by rw [← hs]; simp⟩; have HD := aM_ (ST.out.rows (dayP, _, _, _) (by simp only [List.nil_append, List.cons_append, List.mem_cons]; exact Or.inl rfl)); clear hs; (refine qj_ (w := w) (W18.heap.size) _ dayP _ _ _ rfl (.tmp 29) (.tmp 30) rfl rfl rfl ST.out HT.out HL.out HZ.out (by have := HV.out; exact this) HD.out Tm_ ?_); intro v31 W19 hv hst hlo; have HV1 := aM_ hv; have ST1 := aM_ hst; have HZ1 := aM_ hlo; clear hv hst hlo HV ST HZ HD; have HV := HV1; have ST := ST1; have HZ := HZ1; clear HV1 ST1 HZ1))
 refine (yc_ ⟨#[32, 116, 111, 32]⟩ _).mono ?_
 rintro e W20 ⟨rfl, hb⟩
 have ST1 := aM_ (ST.out.step hb)
 clear ST
 have ST := ST1
 clear ST1
 have HV1 := aM_ (Kd.R_below HV.out hb)
 clear HV
 have HV := HV1
 clear HV1
 have HZ1 := aM_ (Nat.le_trans HZ.out hb.size)
 clear HZ
 have HZ := HZ1
 clear HZ1
 clear hb
 go_wp2_with fail
 refine (vb_ 3 4 _).mono ?_
 rintro e W21 ⟨rfl, hb⟩
 have ST1 := aM_ (ST.out.step hb)
 clear ST
 have ST := ST1
 clear ST1
 have HV1 := aM_ (Kd.R_below HV.out hb)
 clear HV
 have HV := HV1
 clear HV1
 have HZ1 := aM_ (Nat.le_trans HZ.out hb.size)
 clear HZ
 have HZ := HZ1
 clear HZ1
 clear hb
 go_wp2_with fail
 refine (yc_ ⟨#[45]⟩ _).mono ?_
 rintro e W22 ⟨rfl, hb⟩
 have ST1 := aM_ (ST.out.step hb)
 clear ST
 have ST := ST1
 clear ST1
 have HV1 := aM_ (Kd.R_below HV.out hb)
 clear HV
 have HV := HV1
 clear HV1
 have HZ1 := aM_ (Nat.le_trans HZ.out hb.size)
 clear HZ
 have HZ := HZ1
 clear HZ1
 clear hb
 go_wp2_with fail
 refine (vb_ 4 2 _).mono ?_
 rintro e W23 ⟨rfl, hb⟩
 have ST1 := aM_ (ST.out.step hb)
 clear ST
 have ST := ST1
 clear ST1
 have HV1 := aM_ (Kd.R_below HV.out hb)
 clear HV
 have HV := HV1
 clear HV1
 have HZ1 := aM_ (Nat.le_trans HZ.out hb.size)
 clear HZ
 have HZ := HZ1
 clear HZ1
 clear hb
 go_wp2_with fail
 refine (yc_ ⟨#[45]⟩ _).mono ?_
 rintro e W24 ⟨rfl, hb⟩
 have ST1 := aM_ (ST.out.step hb)
 clear ST
 have ST := ST1
 clear ST1
 have HV1 := aM_ (Kd.R_below HV.out hb)
 clear HV
 have HV := HV1
 clear HV1
 have HZ1 := aM_ (Nat.le_trans HZ.out hb.size)
 clear HZ
 have HZ := HZ1
 clear HZ1
 clear hb
 go_wp2_with fail
 refine (vb_ 5 2 _).mono ?_
 rintro e W25 ⟨rfl, hb⟩
 have ST1 := aM_ (ST.out.step hb)
 clear ST
 have ST := ST1
 clear ST1
 have HV1 := aM_ (Kd.R_below HV.out hb)
 clear HV
 have HV := HV1
 clear HV1
 have HZ1 := aM_ (Nat.le_trans HZ.out hb.size)
 clear HZ
 have HZ := HZ1
 clear HZ1
 clear hb
 have HR : Az (Kd.R k48 48 (W25.alloc (.cells (List.flatMap vd_ uh_).toArray 48)) w.heap.size (fun k => W25.heap.size ≤ k) (.slice (some ⟨W25.heap.size, 0, none⟩) 6 6) uh_) := ⟨yh_ uh_ ST.out.base Tm_⟩
 have ST1 := aM_ (ST.out.step (aa_ (Below.refl _ _) (.cells (List.flatMap vd_ uh_).toArray 48)))
 clear ST
 have ST := ST1
 clear ST1
 have HV1 := aM_ (Kd.R_alloc HV.out (.cells (List.flatMap vd_ uh_).toArray 48))
 clear HV
 have HV := HV1
 clear HV1
 have HZ1 := aM_ (Nat.le_trans HZ.out (na_ (aa_ (Below.refl _ W25) (.cells (List.flatMap vd_ uh_).toArray 48))))
 clear HZ
 have HZ := HZ1
 clear HZ1
 go_wp2_with (at_builtin; (refine qj_ (w := w) (W18.heap.size) _ uh_ _ _ _ rfl (.tmp 31) (.tmp 38) rfl rfl rfl ST.out HT.out HL.out HZ.out HV.out HR.out Tm_ ?_); intro v26 W26 hv hst hlo; (obtain ⟨A26, c26, e1, _⟩ : ∃ A c, v26 = .slice A 11 c ∧ True := (by obtain ⟨A, c, e, _⟩ := Kd.R_reads hv; exact ⟨A, c, e, trivial⟩)); subst e1; (obtain ⟨q4, hq⟩ : ∃ hi, StW w W26 (_ ++ [(dayP ++ uh_, (.slice A26 11 c26), (W18.heap.size), hi)]) := ⟨_, hst.snoc HT.out hv⟩); have ST1 := aM_ hq; clear hv hst hlo hq HV ST HZ HR HT HL; have ST := ST1; clear ST1)
 refine (vb_ 1 0 _).mono ?_
 rintro e W27 ⟨rfl, hb⟩
 have ST1 := aM_ (ST.out.step hb)
 clear ST
 have ST := ST1
 clear ST1
 clear hb
 go_wp2_with fail
 refine (yc_ ⟨#[46]⟩ _).mono ?_
 rintro e W28 ⟨rfl, hb⟩
 have ST1 := aM_ (ST.out.step hb)
 clear ST
 have ST := ST1
 clear ST1
 clear hb
 go_wp2_with fail
 refine (vb_ 2 0 _).mono ?_
 rintro e W29 ⟨rfl, hb⟩
 have ST1 := aM_ (ST.out.step hb)
 clear ST
 have ST := ST1
 clear ST1
 clear hb
 go_wp2_with fail
 refine (yc_ ⟨#[32]⟩ _).mono ?_
 rintro e W30 ⟨rfl, hb⟩
 have ST1 := aM_ (ST.out.step hb)
 clear ST
 have ST := ST1
 clear ST1
 clear hb
 have ST1 : Az (∃ hi, StW w (W30.alloc (.cells (List.flatMap vd_ kk_).toArray 48)) (_ ++ [(kk_, .slice (some ⟨W30.heap.size, 0, none⟩) 5 5, W30.heap.size, hi)])) := ⟨_, ST.out.lit kk_ Tm_⟩
 clear ST
 obtain ⟨q5, hq⟩ := ST1.out
 have ST := aM_ hq
 clear ST1 hq
 go_wp2_with fail
 refine (vb_ 0 0 _).mono ?_
 rintro e W31 ⟨rfl, hb⟩
 have ST1 := aM_ (ST.out.step hb)
 clear ST
 have ST := ST1
 clear ST1
 clear hb
 generalize W30.heap.size = z31 at *
 go_wp2_with fail
 refine (yc_ ⟨#[46]⟩ _).mono ?_
 rintro e W32 ⟨rfl, hb⟩
 have ST1 := aM_ (ST.out.step hb)
 clear ST
 have ST := ST1
 clear ST1
 clear hb
 go_wp2_with fail
 refine (vb_ 1 1 _).mono ?_
 rintro e W33 ⟨rfl, hb⟩
 have ST1 := aM_ (ST.out.step hb)
 clear ST
 have ST := ST1
 clear ST1
 clear hb
 have ST1 : Az (∃ hi, StW w (W33.alloc (.cells (List.flatMap vd_ po_).toArray 48)) (_ ++ [(po_, .slice (some ⟨W33.heap.size, 0, none⟩) 3 3, W33.heap.size, hi)])) := ⟨_, ST.out.lit po_ Tm_⟩
 clear ST
 obtain ⟨q6, hq⟩ := ST1.out
 have ST := aM_ hq
 clear ST1 hq
 go_wp2_with fail
 refine (vb_ 0 0 _).mono ?_
 rintro e W34 ⟨rfl, hb⟩
 have ST1 := aM_ (ST.out.step hb)
 clear ST
 have ST := ST1
 clear ST1
 clear hb
 generalize W33.heap.size = z34 at *
 go_wp2_with fail
 refine (yc_ ⟨#[32, 115]⟩ _).mono ?_
 rintro e W35 ⟨rfl, hb⟩
 have ST1 := aM_ (ST.out.step hb)
 clear ST
 have ST := ST1
 clear ST1
 clear hb
 have ST1 : Az (∃ hi, StW w (W35.alloc (.cells (List.flatMap vd_ durP).toArray 48)) (_ ++ [(durP, .slice (some ⟨W35.heap.size, 0, none⟩) 2 2, W35.heap.size, hi)])) := ⟨_, ST.out.lit durP Tm_⟩
 clear ST
 obtain ⟨q7, hq⟩ := ST1.out
 have ST := aM_ hq
 clear ST1 hq
 go_wp2_with fail
 refine (vb_ 2 0 _).mono ?_
 rintro e W36 ⟨rfl, hb⟩
 have ST1 := aM_ (ST.out.step hb)
 clear ST
 have ST := ST1
 clear ST1
 clear hb
 generalize W35.heap.size = z36 at *
 go_wp2_with fail
 refine (yc_ ⟨#[32]⟩ _).mono ?_
 rintro e W37 ⟨rfl, hb⟩
 have ST1 := aM_ (ST.out.step hb)
 clear ST
 have ST := ST1
 clear ST1
 clear hb
 go_wp2_with fail
 refine (yc_ ⟨#[32]⟩ _).mono ?_
 rintro e W38 ⟨rfl, hb⟩
 have ST1 := aM_ (ST.out.step hb)
 clear ST
 have ST := ST1
 clear ST1
 clear hb
 go_wp2_with fail
 refine (vb_ 0 4 _).mono ?_
 rintro e W39 ⟨rfl, hb⟩
 have ST1 := aM_ (ST.out.step hb)
 clear ST
 have ST := ST1
 clear ST1
 clear hb
 have ST1 : Az (∃ hi, StW w (W39.alloc (.cells (List.flatMap vd_ jm_).toArray 48)) (_ ++ [(jm_, .slice (some ⟨W39.heap.size, 0, none⟩) 5 5, W39.heap.size, hi)])) := ⟨_, ST.out.lit jm_ Tm_⟩
 clear ST
 obtain ⟨q8, hq⟩ := ST1.out
 have ST := aM_ hq
 clear ST1 hq
 have hS := styles_S ST.out [(⟨4, dayP⟩, .slice (some ⟨z6, 0, none⟩) 5 5, z6, q1), (⟨5, oh_⟩, .slice (some ⟨W10.heap.size, 0, none⟩) 5 5, W10.heap.size, q2), (⟨6, dayP ++ di_⟩, .slice A18 11 c18, W10.heap.size + 1, q3), (⟨7, po_⟩, .slice (some ⟨z34, 0, none⟩) 3 3, z34, q6), (⟨8, kk_⟩, .slice (some ⟨z31, 0, none⟩) 5 5, z31, q5), (⟨9, durP⟩, .slice (some ⟨z36, 0, none⟩) 2 2, z36, q7), (⟨10, dayP ++ uh_⟩, .slice A26 11 c26, W18.heap.size, q4), (⟨4, jm_⟩, .slice (some ⟨W39.heap.size, 0, none⟩) 5 5, W39.heap.size, q8)] ((((perm5 _ _ _ _ _).cons _).cons _).cons _) (Nat.le_of_ble_eq_true rfl)
 have hB := aa_ ST.out.below (.cells (List.flatMap zi_ [(⟨4, dayP⟩, .slice (some ⟨z6, 0, none⟩) 5 5, z6, q1), (⟨5, oh_⟩, .slice (some ⟨W10.heap.size, 0, none⟩) 5 5, W10.heap.size, q2), (⟨6, dayP ++ di_⟩, .slice A18 11 c18, W10.heap.size + 1, q3), (⟨7, po_⟩, .slice (some ⟨z34, 0, none⟩) 3 3, z34, q6), (⟨8, kk_⟩, .slice (some ⟨z31, 0, none⟩) 5 5, z31, q5), (⟨9, durP⟩, .slice (some ⟨z36, 0, none⟩) 2 2, z36, q7), (⟨10, dayP ++ uh_⟩, .slice A26 11 c26, W18.heap.size, q4), (⟨4, jm_⟩, .slice (some ⟨W39.heap.size, 0, none⟩) 5 5, W39.heap.size, q8)]).toArray 52)
 have hz : (W39.alloc (.cells (List.flatMap vd_ jm_).toArray 48)).heap.size = W39.heap.size + 1 := by simp
 rw [hz] at hS
 have HS := aM_ hS
 have HB := aM_ hB
 clear hS hB hz
 go_wp2
 go_ret
 rw [HW0.out]
 exact ⟨_, rfl, HS.out, HB.out⟩
noncomputable def l5_styles.f : Option (List S52) := some ff_
theorem l5_styles.calls (r : List S52) (w : World) (h : l5_styles.f = some r) : Calls Tryz.prog 72 #[] w fun e w' => ∃ v0_ : Value, e = .returned (v0_) ∧ Kd.S k52 52 w' w.heap.size (fun _ => True) v0_ r ∧ Below w.heap.size w w' := by
 obtain rfl := Option.some.inj h
 exact vo_ w
end Go.Proofs.YtiocgaekoeekgaaGreat.P
end
section
namespace Go.Proofs.YtiocgaekoeekgaaGreat.P
open Go.RowKit YtiocgaekoeekgaaGreatW.PrintWords YtiocgaekoeekgaaGreatW.PrintLast YtiocgaekoeekgaaGreatW.PrintMore
attribute [local go_sem] ub_ rb_ cc_ bc_ kb_ jb_ tb_ qb_   
set_option linter.unusedVariables false
set_option linter.unusedSimpArgs false
noncomputable def l5_Sample.f (a0 : Int) (a1 : Int) : Option ((List (S44))) := (l5_words.f).bind fun t264 => ((l5_others.f).bind fun t267 => ((l5_styles.f).bind fun t270 => ((l5_dates.f a0).bind fun t273 => ((l5_within.f a1 4).bind fun t276 => (some (([(⟨(⟨#[98, 97, 115, 101]⟩ : BA), (-1), 0, t264, t267, t270⟩ : S44), (⟨(⟨#[101, 110]⟩ : BA), 0, 0, ([] : List (S46)), t273, ([] : List (S52))⟩ : S44), (⟨(⟨#[97, 114, 45, 49]⟩ : BA), 1, t276, (([(⟨(⟨#[109, 97, 105]⟩ : BA), 1, 5⟩ : S46)] : List (S46))), ([] : List (S56)), ([] : List (S52))⟩ : S44)] : List (S44))))))))
theorem l5_Sample.calls (a0 : Int) (a1 : Int) (r : List (S44)) (w : World) (h : l5_Sample.f a0 a1 = some r) :
  Calls Tryz.prog 31 #[.int .i64 a0, .int .i64 a1] w fun e w' => ∃ v0_ : Value, e = .returned (v0_) ∧ Kd.N k44 44 w' w.heap.size (fun k_ => (w.heap.size ≤ k_)) v0_ r ∧ Below w.heap.size w w' := by
 have hu44 := Tryz.underlying44
 have hu46 := Tryz.underlying46
 have HB := aM_ (Below.refl w.heap.size w)
 have H : ((l5_words.f).bind fun t264 => ((l5_others.f).bind fun t267 => ((l5_styles.f).bind fun t270 => ((l5_dates.f a0).bind fun t273 => ((l5_within.f a1 4).bind fun t276 => (some (([(⟨(⟨#[98, 97, 115, 101]⟩ : BA), (-1), 0, t264, t267, t270⟩ : S44), (⟨(⟨#[101, 110]⟩ : BA), 0, 0, ([] : List (S46)), t273, ([] : List (S52))⟩ : S44), (⟨(⟨#[97, 114, 45, 49]⟩ : BA), 1, t276, (([(⟨(⟨#[109, 97, 105]⟩ : BA), 1, 5⟩ : S46)] : List (S46))), ([] : List (S56)), ([] : List (S52))⟩ : S44)] : List (S44))))))))) = some r := h
 clear h
 replace H := bd_ H
 obtain ⟨t264, A3, H⟩ := H
 replace H := bd_ H
 obtain ⟨t267, A4, H⟩ := H
 replace H := bd_ H
 obtain ⟨t270, A5, H⟩ := H
 replace H := bd_ H
 obtain ⟨t273, A6, H⟩ := H
 replace H := bd_ H
 obtain ⟨t276, A7, H⟩ := H
 obtain ⟨y277, hy277⟩ : ∃ y_ : List (S46), y_ = (([(⟨(⟨#[109, 97, 105]⟩ : BA), 1, 5⟩ : S46)] : List (S46))) := ⟨_, rfl⟩
 replace H : (some (([(⟨(⟨#[98, 97, 115, 101]⟩ : BA), (-1), 0, t264, t267, t270⟩ : S44), (⟨(⟨#[101, 110]⟩ : BA), 0, 0, ([] : List (S46)), t273, ([] : List (S52))⟩ : S44), (⟨(⟨#[97, 114, 45, 49]⟩ : BA), 1, t276, y277, ([] : List (S56)), ([] : List (S52))⟩ : S44)] : List (S44)))) = some r := by first | (rw [hy277]; with_reducible exact H) | (have H2_ := (Option.bind_some _ _).symm.trans H; rw [hy277]; with_reducible exact H2_) | (have H2_ := (Option.bind_some _ _).symm.trans H; with_reducible exact H2_) | with_reducible exact H | (rw [hy277]; exact H) | exact H
 have Ny277 := aM_ hy277
 clear hy277
 obtain ⟨y280, hy280⟩ : ∃ y_ : List (S44), y_ = (([(⟨(⟨#[98, 97, 115, 101]⟩ : BA), (-1), 0, t264, t267, t270⟩ : S44), (⟨(⟨#[101, 110]⟩ : BA), 0, 0, ([] : List (S46)), t273, ([] : List (S52))⟩ : S44), (⟨(⟨#[97, 114, 45, 49]⟩ : BA), 1, t276, y277, ([] : List (S56)), ([] : List (S52))⟩ : S44)] : List (S44))) := ⟨_, rfl⟩
 replace H : (some y280) = some r := by first | (rw [hy280]; with_reducible exact H) | (have H2_ := (Option.bind_some _ _).symm.trans H; rw [hy280]; with_reducible exact H2_) | (have H2_ := (Option.bind_some _ _).symm.trans H; with_reducible exact H2_) | with_reducible exact H | (rw [hy280]; exact H) | exact H
 have Ny280 := aM_ hy280
 clear hy280
 obtain rfl := Option.some.inj H
 go_enter Tryz.func31, Tryz.ntmps31
 go_wp2_with (first | ((with_reducible refine gd_ 5 ?_); refine gL_ Tryz.func71 #[] ?_; (with_reducible refine (l5_words.calls  t264 _ A3.out).mono ?_); rintro e w8 ⟨v265, rfl, ho0, hb⟩; refine ⟨_, rfl, ?_⟩; have n0_ := aM_ (Kd.R_lower (Kd.R_newM (M := fun k_ => (w.heap.size ≤ k_)) ho0 (na_ Ta_) (fun k_ h_ => h_)) (na_ Ta_)); have n1_ := aM_ (da_ Ta_ hb); clear HB; have HO266 := n0_; have HB := n1_; clear n0_ n1_; (try clear hb); (try clear hb2); (try clear hk); (try clear hi); (try clear ho0)) | ((with_reducible refine gd_ 6 ?_); refine gL_ Tryz.func26 #[] ?_; (with_reducible refine (l5_others.calls  t267 _ A4.out).mono ?_); rintro e w9 ⟨v268, rfl, ho0, hb⟩; refine ⟨_, rfl, ?_⟩; have n0_ := aM_ (Kd.R_below Ub_ hb); have n1_ := aM_ (Kd.N_lower (Kd.N_mono (ok' := fun k_ => (w.heap.size ≤ k_) ∧ some k_ ≠ (v265 : Value).ownBlock) (Kd.S_N (Kd.S_bound ho0)) (fun k_ hk_ => ⟨(Nat.le_trans (na_ Ta_) hk_.2.1), (Kd.fresh' (Kd.R_lt Ub_) k_ hk_.2.1)⟩)) (na_ Ta_)); have n2_ := aM_ (da_ Ta_ hb); clear HO266; clear HB; have HO266 := n0_; have HO269 := n1_; have HB := n2_; clear n0_ n1_ n2_; (try clear hb); (try clear hb2); (try clear hk); (try clear hi); (try clear ho0)) | ((with_reducible refine gd_ 7 ?_); refine gL_ Tryz.func72 #[] ?_; (with_reducible refine (l5_styles.calls  t270 _ A5.out).mono ?_); rintro e w10 ⟨v271, rfl, ho0, hb⟩; refine ⟨_, rfl, ?_⟩; have n0_ := aM_ (Kd.R_below Ub_ hb); have n1_ := aM_ (Kd.N_elder' Uu_ Wd_ hb); have n2_ := aM_ (Kd.N_lower (Kd.N_mono (ok' := fun k_ => (w.heap.size ≤ k_) ∧ some k_ ≠ (v265 : Value).ownBlock ∧ some k_ ≠ (v268 : Value).ownBlock) (Kd.S_N (Kd.S_bound ho0)) (fun k_ hk_ => ⟨(Nat.le_trans (na_ Ta_) hk_.2.1), (Kd.fresh' (Kd.R_lt Ub_) k_ hk_.2.1), (Kd.fresh' (Kd.N_lt Uu_) k_ hk_.2.1)⟩)) (na_ Ta_)); have n3_ := aM_ (da_ Ta_ hb); clear HO266; clear HO269; clear HB; have HO266 := n0_; have HO269 := n1_; have HO272 := n2_; have HB := n3_; clear n0_ n1_ n2_ n3_; (try clear hb); (try clear hb2); (try clear hk); (try clear hi); (try clear ho0); obtain ⟨Ao11, co11, eo11⟩ := Kd.N_slice HO272.out; subst eo11; obtain ⟨Ao12, co12, eo12⟩ := Kd.N_slice HO269.out; subst eo12; obtain ⟨Ao13, co13, eo13⟩ := Kd.R_slice HO266.out; subst eo13) | ((with_reducible refine gd_ 10 ?_); refine gL_ Tryz.func27 #[.int .i64 a0] ?_; (with_reducible refine (l5_dates.calls _ _ _ A6.out).mono ?_); rintro e w14 ⟨v274, rfl, ho0, hb⟩; refine ⟨_, rfl, ?_⟩; have n0_ := aM_ (Kd.R_below Ub_ hb); have n1_ := aM_ (Kd.N_elder' Uu_ Wd_ hb); have n2_ := aM_ (Kd.N_elder' Vn_ Wd_ hb); have n3_ := aM_ (Kd.N_lower (Kd.N_mono (ok' := fun k_ => (w.heap.size ≤ k_) ∧ some k_ ≠ (.slice Ao13 t264.length co13 : Value).ownBlock ∧ some k_ ≠ (.slice Ao12 t267.length co12 : Value).ownBlock ∧ some k_ ≠ (.slice Ao11 t270.length co11 : Value).ownBlock) (Kd.S_N (Kd.S_bound ho0)) (fun k_ hk_ => ⟨(Nat.le_trans (na_ Ta_) hk_.2.1), (Kd.fresh' (Kd.R_lt Ub_) k_ hk_.2.1), (Kd.fresh' (Kd.N_lt Uu_) k_ hk_.2.1), (Kd.fresh' (Kd.N_lt Vn_) k_ hk_.2.1)⟩)) (na_ Ta_)); have n4_ := aM_ (da_ Ta_ hb); clear HO266; clear HO269; clear HO272; clear HB; have HO266 := n0_; have HO269 := n1_; have HO272 := n2_; have HO275 := n3_; have HB := n4_; clear n0_ n1_ n2_ n3_ n4_; (try clear hb); (try clear hb2); (try clear hk); (try clear hi); (try clear ho0); obtain ⟨Ao15, co15, eo15⟩ := Kd.N_slice HO275.out; subst eo15) | ((with_reducible refine gd_ 13 ?_); refine gQ_ Tryz.func19 (l5_within.calls _ _ _ _ A7.out) fun nd => ?_) | ((with_reducible refine gd_ 15 ?_); refine Kd.R_lit k46 _ 46 rfl (N := 15) rfl (xs := ([(⟨(⟨#[109, 97, 105]⟩ : BA), 1, 5⟩ : S46)] : List (S46))) (inner := [.string (⟨#[109, 97, 105]⟩ : BA), .int .i64 1, .int .i64 5]) (ok := fun _ => True) (okp := fun _ => True) Tx_ ?hp (fun _ hk => hk) trivial (Below.refl _ _) (Nat.le_refl _) Tt_ ?_; (case hp => exact (Reps.c3 (show Kd.M k46 _ _ _ (⟨(⟨#[109, 97, 105]⟩ : BA), 1, 5⟩ : S46) [.string (⟨#[109, 97, 105]⟩ : BA), .int .i64 1, .int .i64 5] from (mc_ _ _ _ (⟨(⟨#[109, 97, 105]⟩ : BA), 1, 5⟩ : S46) )) (Reps.none _ _))); intro v278 w16 ho17 hb hg_ hnew_; clear hg_ hnew_; (first | rw [← Ny277.out] at ho17 | (simp only [Int.reduceToNat] at ho17; rw [← Ny277.out] at ho17)); have n0_ := aM_ (Kd.R_elder' Ub_ (Kd.R_base ho17) hb); have n1_ := aM_ (Kd.N_elder' Uu_ (Kd.R_base ho17) hb); have n2_ := aM_ (Kd.N_elder' Vn_ (Kd.R_base ho17) hb); have n3_ := aM_ (Kd.N_elder' (by (with_reducible repeat (first | apply Kd.N_alloc | apply Kd.N_drewN | apply Kd.N_drew)); exact HO275.out) (Kd.R_base ho17) hb); have n4_ := aM_ (Kd.R_lower (Kd.R_new' (Kd.R_newM (M := fun k_ => (w.heap.size ≤ k_)) ho17 (na_ Ta_) (fun k_ h_ => h_)) (Kd.R_lt Ub_)) (na_ Ta_)); have n5_ := aM_ (da_ Ta_ hb); clear HO266; clear HO269; clear HO272; clear HO275; clear HB; have HO266 := n0_; have HO269 := n1_; have HO272 := n2_; have HO275 := n3_; have HO279 := n4_; have HB := n5_; clear n0_ n1_ n2_ n3_ n4_ n5_; clear hb ho17; obtain ⟨Ao18, co18, eo18⟩ := Kd.R_slice HO279.out; subst eo18) | ((with_reducible refine gd_ 17 ?_); refine Kd.N_lit k44 _ 44 rfl (N' := 17) rfl (xs := ([(⟨(⟨#[98, 97, 115, 101]⟩ : BA), (-1), 0, t264, t267, t270⟩ : S44), (⟨(⟨#[101, 110]⟩ : BA), 0, 0, ([] : List (S46)), t273, ([] : List (S52))⟩ : S44), (⟨(⟨#[97, 114, 45, 49]⟩ : BA), 1, t276, y277, ([] : List (S56)), ([] : List (S52))⟩ : S44)] : List (S44))) (inner := [.string (⟨#[98, 97, 115, 101]⟩ : BA), .int .i64 (-1), .int .i64 0, .slice Ao13 t264.length co13, .slice Ao12 t267.length co12, .slice Ao11 t270.length co11, .string (⟨#[101, 110]⟩ : BA), .int .i64 0, .int .i64 0, .slice none 0 0, .slice Ao15 t273.length co15, .slice none 0 0, .string (⟨#[97, 114, 45, 49]⟩ : BA), .int .i64 1, .int .i64 t276, .slice Ao18 y277.length co18, .slice none 0 0, .slice none 0 0]) (ok := (fun k_ => (w.heap.size ≤ k_))) (okp := (fun k_ => (w.heap.size ≤ k_))) Tx_ ?hp (fun _ hk => hk) ((show ∀ k_, w16.heap.size ≤ k_ → (fun k_ => (w.heap.size ≤ k_)) k_ from fun k_ hk => (Nat.le_trans (na_ Ta_) hk)) _ (Nat.le_refl _)) (Below.refl _ _) (Nat.le_refl _) Tt_ ?_; (case hp => exact (Reps.c6 (show Kd.FK k44 _ _ (⟨(⟨#[98, 97, 115, 101]⟩ : BA), (-1), 0, t264, t267, t270⟩ : S44) [.string (⟨#[98, 97, 115, 101]⟩ : BA), .int .i64 (-1), .int .i64 0, .slice Ao13 t264.length co13, .slice Ao12 t267.length co12, .slice Ao11 t270.length co11] from (pl_ _ _ (⟨(⟨#[98, 97, 115, 101]⟩ : BA), (-1), 0, t264, t267, t270⟩ : S44) (Kd.R_reads' (Kd.R_mono (ok' := (fun k_ => (w.heap.size ≤ k_))) (HO266.out) (fun k_ hk => hk.1.1))).2.1 (Kd.R_F (Kd.R_mono (ok' := (fun k_ => (w.heap.size ≤ k_))) (HO266.out) (fun k_ hk => hk.1.1))) (Kd.N_reads' (Kd.N_mono (ok' := (fun k_ => (w.heap.size ≤ k_))) (HO269.out) (fun k_ hk => hk.1.1.1.1))).2.1 (Kd.N_F (Kd.N_mono (ok' := (fun k_ => (w.heap.size ≤ k_))) (HO269.out) (fun k_ hk => hk.1.1.1.1))) (Kd.N_reads' (Kd.N_mono (ok' := (fun k_ => (w.heap.size ≤ k_))) (HO272.out) (fun k_ hk => hk.1.1.1))).2.1 (Kd.N_F (Kd.N_mono (ok' := (fun k_ => (w.heap.size ≤ k_))) (HO272.out) (fun k_ hk => hk.1.1.1))))) (Reps.c6 (show Kd.FK k44 _ _ (⟨(⟨#[101, 110]⟩ : BA), 0, 0, ([] : List (S46)), t273, ([] : List (S52))⟩ : S44) [.string (⟨#[101, 110]⟩ : BA), .int .i64 0, .int .i64 0, .slice none 0 0, .slice Ao15 t273.length co15, .slice none 0 0] from (pl_ _ _ (⟨(⟨#[101, 110]⟩ : BA), 0, 0, ([] : List (S46)), t273, ([] : List (S52))⟩ : S44) (Nat.le_refl _) (Kd.F_nil _ _ _) (Kd.N_reads' (Kd.N_mono (ok' := (fun k_ => (w.heap.size ≤ k_))) (HO275.out) (fun k_ hk => hk.1.1))).2.1 (Kd.N_F (Kd.N_mono (ok' := (fun k_ => (w.heap.size ≤ k_))) (HO275.out) (fun k_ hk => hk.1.1))) (Nat.le_refl _) (Kd.F_nil _ _ _))) (Reps.c6 (show Kd.FK k44 _ _ (⟨(⟨#[97, 114, 45, 49]⟩ : BA), 1, t276, y277, ([] : List (S56)), ([] : List (S52))⟩ : S44) [.string (⟨#[97, 114, 45, 49]⟩ : BA), .int .i64 1, .int .i64 t276, .slice Ao18 y277.length co18, .slice none 0 0, .slice none 0 0] from (pl_ _ _ (⟨(⟨#[97, 114, 45, 49]⟩ : BA), 1, t276, y277, ([] : List (S56)), ([] : List (S52))⟩ : S44) (Kd.R_reads' (Kd.R_mono (ok' := (fun k_ => (w.heap.size ≤ k_))) (HO279.out) (fun k_ hk => hk.1.1))).2.1 (Kd.R_F (Kd.R_mono (ok' := (fun k_ => (w.heap.size ≤ k_))) (HO279.out) (fun k_ hk => hk.1.1))) (Nat.le_refl _) (Kd.F_nil _ _ _) (Nat.le_refl _) (Kd.F_nil _ _ _))) (Reps.none _ _))))); intro v281 w19 ho20 hb hg_ hnew_; clear hg_ hnew_; (first | rw [← Ny280.out] at ho20 | (simp only [Int.reduceToNat] at ho20; rw [← Ny280.out] at ho20)); have n0_ := aM_ (Kd.N_lower ho20 (na_ Ta_)); have n1_ := aM_ (da_ Ta_ hb); clear HB; clear HO266; clear HO269; clear HO272; clear HO275; clear HO279; have HO282 := n0_; have HB := n1_; clear n0_ n1_; clear hb ho20))
 go_ret
 exact ⟨_, Tl_, by (with_reducible repeat (first | apply Kd.N_alloc | apply Kd.N_drewN | apply Kd.N_drew)); exact HO282.out, Ta_⟩
noncomputable def l4_Few.l0 : Nat → List (S120) → Int → Option (Bool)
 | 0, _, _ => none
 | k + 1, x0, x3 => if x3 < (x0.length : Int) then (if 0 ≤ x3 then (if (((xa_ x0 x3).f3).length : Int) > 20 then (some false) else (if (((xa_ x0 x3).f4).length : Int) > 20 then (some false) else (l4_Few.l0 k x0 (wrap64 (x3 + 1))))) else (none)) else (some (decide ((x0.length : Int) ≤ 80)))
noncomputable def l4_Few.f (k : Nat) (l0 : List (S120)) : Option (Bool) := l4_Few.l0 k l0 0
theorem l4_Few.calls (k : Nat) (A0 : Option Addr) (c0 : Nat) (l0 : List (S120)) (r : Bool) (w : World) (hr0 : Kd.C k120 w A0 l0.length l0) (hc0 : l0.length ≤ c0) (h : l4_Few.f k l0 = some r) :
  Calls Tryz.prog 30 #[.slice A0 l0.length c0] w fun e w' => e = .returned (.bool r) ∧ Drawn0 w w' := by
 have HR0 := aM_ hr0
 have HC0 := aM_ hc0
 clear hr0 hc0
 have H : (l4_Few.l0 k l0 0) = some r := h
 clear h
 have H' := aM_ H
 clear H
 go_enter Tryz.func30, Tryz.ntmps30
 go_wp2
 go_loopg [3] k (fun kq v3 w' => ∃ (x3_1 : Int), v3 = .int .i64 x3_1 ∧ Az (l4_Few.l0 kq l0 x3_1 = some r) ∧ Az (kq ≤ k) ∧ Drawn0 w w')
 case atStart => exact ⟨(0), Tc_, H', ⟨Nat.le_refl _⟩, Tb_⟩
 clear H'
 obtain ⟨x3_1, rfl, HA, HK1, ⟨m1, rfl⟩⟩ := hrel
 cases gk with
 | zero => exact absurd HA.out (by simp [l4_Few.l0])
 | succ k1 =>
  have H := HA.out; clear HA; simp only [l4_Few.l0] at H
  by_cases c2 : x3_1 < (l0.length : Int)
  ·rw [if_pos c2] at H
   have c2b0 := decide_eq_true c2; clear c2
   by_cases c3 : 0 ≤ x3_1
   ·rw [if_pos c3] at H
    have c3b0 := decide_eq_true c3; clear c3
    by_cases c4 : (((xa_ l0 x3_1).f3).length : Int) > 20
    ·rw [if_pos c4] at H
     have c4b0 := decide_eq_true c4; have c4b1 : decide (20 < ((xa_ l0 x3_1).f3).length) = true := decide_eq_true Td_; clear c4; obtain rfl := Option.some.inj H; have p255 : 0 ≤ (x3_1 : Int) := of_decide_eq_true Te_; have q255 : x3_1 < (l0.length : Int) := of_decide_eq_true Te_; obtain ⟨ad255, A255_3, c255_3, A255_4, c255_4, e255, hx255_0, hx255_1, hx255_2, hx255_3, hx255_4, hl255_3, hi255_3, hl255_4, hi255_4⟩ := ph_ HR0.out x3_1 p255 q255
     cases e255
     have HR255_3 := aM_ hi255_3; have HC255_3 := aM_ hl255_3; clear hi255_3 hl255_3; have HR255_4 := aM_ hi255_4; have HC255_4 := aM_ hl255_4; clear hi255_4 hl255_4; replace p255 := eq_true p255; replace q255 := eq_true q255
     go_wp2
     go_ret
     exact ⟨Tc_, Tb_⟩
    rw [if_neg c4] at H; have c4b0 := decide_eq_false c4; have c4b1 : decide (20 < ((xa_ l0 x3_1).f3).length) = false := decide_eq_false Td_; clear c4
    by_cases c5 : (((xa_ l0 x3_1).f4).length : Int) > 20
    ·rw [if_pos c5] at H
     have c5b0 := decide_eq_true c5; have c5b1 : decide (20 < ((xa_ l0 x3_1).f4).length) = true := decide_eq_true Td_; clear c5; obtain rfl := Option.some.inj H; have p255 : 0 ≤ (x3_1 : Int) := of_decide_eq_true Te_; have q255 : x3_1 < (l0.length : Int) := of_decide_eq_true Te_; obtain ⟨ad255, A255_3, c255_3, A255_4, c255_4, e255, hx255_0, hx255_1, hx255_2, hx255_3, hx255_4, hl255_3, hi255_3, hl255_4, hi255_4⟩ := ph_ HR0.out x3_1 p255 q255
     cases e255
     have HR255_3 := aM_ hi255_3; have HC255_3 := aM_ hl255_3; clear hi255_3 hl255_3; have HR255_4 := aM_ hi255_4; have HC255_4 := aM_ hl255_4; clear hi255_4 hl255_4; replace p255 := eq_true p255; replace q255 := eq_true q255; have p256 : 0 ≤ (x3_1 : Int) := of_decide_eq_true Te_; have q256 : x3_1 < (l0.length : Int) := of_decide_eq_true Te_; obtain ⟨ad256, A256_3, c256_3, A256_4, c256_4, e256, hx256_0, hx256_1, hx256_2, hx256_3, hx256_4, hl256_3, hi256_3, hl256_4, hi256_4⟩ := ph_ HR0.out x3_1 p256 q256; obtain rfl : ad255 = ad256 := (by injection e256); have HR256_3 := aM_ hi256_3; have HC256_3 := aM_ hl256_3; clear hi256_3 hl256_3; have HR256_4 := aM_ hi256_4; have HC256_4 := aM_ hl256_4; clear hi256_4 hl256_4; replace p256 := eq_true p256; replace q256 := eq_true q256; have ea_ := Option.some.inj (hx255_3.symm.trans hx256_3); injection ea_ with ea_ en_ ec_; subst ea_; subst ec_; clear en_; have ea_ := Option.some.inj (hx255_4.symm.trans hx256_4); injection ea_ with ea_ en_ ec_; subst ea_; subst ec_; clear en_
     go_wp2
     go_ret
     exact ⟨Tc_, Tb_⟩
    rw [if_neg c5] at H; have c5b0 := decide_eq_false c5; have c5b1 : decide (20 < ((xa_ l0 x3_1).f4).length) = false := decide_eq_false Td_; clear c5; have H' := aM_ H; clear H; have p255 : 0 ≤ (x3_1 : Int) := of_decide_eq_true Te_; have q255 : x3_1 < (l0.length : Int) := of_decide_eq_true Te_; obtain ⟨ad255, A255_3, c255_3, A255_4, c255_4, e255, hx255_0, hx255_1, hx255_2, hx255_3, hx255_4, hl255_3, hi255_3, hl255_4, hi255_4⟩ := ph_ HR0.out x3_1 p255 q255
    cases e255
    have HR255_3 := aM_ hi255_3; have HC255_3 := aM_ hl255_3; clear hi255_3 hl255_3; have HR255_4 := aM_ hi255_4; have HC255_4 := aM_ hl255_4; clear hi255_4 hl255_4; replace p255 := eq_true p255; replace q255 := eq_true q255; have p256 : 0 ≤ (x3_1 : Int) := of_decide_eq_true Te_; have q256 : x3_1 < (l0.length : Int) := of_decide_eq_true Te_; obtain ⟨ad256, A256_3, c256_3, A256_4, c256_4, e256, hx256_0, hx256_1, hx256_2, hx256_3, hx256_4, hl256_3, hi256_3, hl256_4, hi256_4⟩ := ph_ HR0.out x3_1 p256 q256; obtain rfl : ad255 = ad256 := (by injection e256); have HR256_3 := aM_ hi256_3; have HC256_3 := aM_ hl256_3; clear hi256_3 hl256_3; have HR256_4 := aM_ hi256_4; have HC256_4 := aM_ hl256_4; clear hi256_4 hl256_4; replace p256 := eq_true p256; replace q256 := eq_true q256; have ea_ := Option.some.inj (hx255_3.symm.trans hx256_3); injection ea_ with ea_ en_ ec_; subst ea_; subst ec_; clear en_; have ea_ := Option.some.inj (hx255_4.symm.trans hx256_4); injection ea_ with ea_ en_ ec_; subst ea_; subst ec_; clear en_
    go_wp2
    go_roundg k1
    case measure => have := HK1.out; omega
    case rel => exact ⟨(wrap64 (x3_1 + 1)), Tc_, H', ⟨Vs_⟩, Tb_⟩
   rw [if_neg c3] at H; exact absurd H Tt_
  rw [if_neg c2] at H; have c2b0 := decide_eq_false c2; clear c2; obtain rfl := Option.some.inj H
  go_wp2
  go_ret
  exact ⟨Tc_, Tb_⟩
noncomputable def l5_Shape_Few.f (k : Nat) (a0_0 : Int) (a0_1 : Int) (a0_2 : Int) (a0_3 : Int) (l0_4 : List (S120)) (a0_5 : Bool) : Option (Bool) := (l4_Few.f k l0_4).bind fun t258 => (if t258 = true then (some (decide ((l0_4.length : Int) ≤ 12))) else (some false))
theorem l5_Shape_Few.calls (k : Nat) (a0_0 : Int) (a0_1 : Int) (a0_2 : Int) (a0_3 : Int) (A0_4 : Option Addr) (c0_4 : Nat) (l0_4 : List (S120)) (a0_5 : Bool) (r : Bool) (w : World) (hr0_4 : Kd.C k120 w A0_4 l0_4.length l0_4) (hc0_4 : l0_4.length ≤ c0_4) (h : l5_Shape_Few.f k a0_0 a0_1 a0_2 a0_3 l0_4 a0_5 = some r) :
  Calls Tryz.prog 12 #[.agg #[.int .i64 a0_0, .int .i64 a0_1, .int .i64 a0_2, .int .i64 a0_3, .slice A0_4 l0_4.length c0_4, .bool a0_5]] w fun e w' => e = .returned (.bool r) ∧ Below w.heap.size w w' := by
 have hu24 := Tryz.underlying24
 have HR0_4 := aM_ hr0_4
 have HC0_4 := aM_ hc0_4
 clear hr0_4 hc0_4
 have HB := aM_ (Below.refl w.heap.size w)
 have H : ((l4_Few.f k l0_4).bind fun t258 => (if t258 = true then (some (decide ((l0_4.length : Int) ≤ 12))) else (some false))) = some r := h
 clear h
 replace H := bd_ H
 obtain ⟨t258, A2, H⟩ := H
 by_cases c3 : t258 = true
 ·subst c3
  have H1 : (some (decide ((l0_4.length : Int) ≤ 12))) = some r := by rw [if_pos rfl] at H; exact H
  clear H; have H := H1; clear H1; obtain rfl := Option.some.inj H
  go_enter Tryz.func12, Tryz.ntmps12
  go_wp2_with (first | ((with_reducible refine gd_ 1 ?_); (try (refine dg_ Vh_ ?_; dsimp only)); refine te_ rfl (N := 1) rfl (cs := #[.int .i64 a0_0, .int .i64 a0_1, .int .i64 a0_2, .int .i64 a0_3, .slice A0_4 l0_4.length c0_4, .bool a0_5]) (t := 24) Tx_ ?_; intro gb257 hg w4 hbox hb; have n0_ := aM_ (da_ Ta_ hb); have n1_ := aM_ (hbox); have n2_ := aM_ ((by rw [hg]; exact (na_ Ta_) : w.heap.size ≤ gb257)); have n3_ := aM_ ((by rw [hg]; exact (na_ Ta_) : w.heap.size ≤ gb257)); clear HB; have HB := n0_; have BK257 := n1_; have GW257 := n2_; have GE257 := n3_; clear n0_ n1_ n2_ n3_; clear hb hbox hg; have hcz5_0 : w4.cell? ⟨gb257, 0, none⟩ = some (.int .i64 a0_0) := (ba_ BK257.out 0).trans rfl; have hcz5_1 : w4.cell? ⟨gb257, 1, none⟩ = some (.int .i64 a0_1) := (ba_ BK257.out 1).trans rfl; have hcz5_2 : w4.cell? ⟨gb257, 2, none⟩ = some (.int .i64 a0_2) := (ba_ BK257.out 2).trans rfl; have hcz5_3 : w4.cell? ⟨gb257, 3, none⟩ = some (.int .i64 a0_3) := (ba_ BK257.out 3).trans rfl; have hcz5_4 : w4.cell? ⟨gb257, 4, none⟩ = some (.slice A0_4 l0_4.length c0_4) := (ba_ BK257.out 4).trans rfl; have hcz5_5 : w4.cell? ⟨gb257, 5, none⟩ = some (.bool a0_5) := (ba_ BK257.out 5).trans rfl; have hfz5_0 := ha_ BK257.out 0; have hfz5_1 := ha_ BK257.out 1; have hfz5_2 := ha_ BK257.out 2; have hfz5_3 := ha_ BK257.out 3; have hfz5_4 := ha_ BK257.out 4; have hfz5_5 := ha_ BK257.out 5) | ((with_reducible refine gd_ 5 ?_); refine gL_ Tryz.func30 #[.slice A0_4 l0_4.length c0_4] ?_; (with_reducible refine (l4_Few.calls _ _ _ _ _ _ (by repeat (first | exact (Kd.C_below HR0_4.out HB.out) | (with_reducible refine Kd.C_alloc ?_ _) | (with_reducible refine Kd.C_drewN ?_ _) | (with_reducible refine Kd.C_drew ?_))) HC0_4.out A2.out).mono ?_); rintro e w' ⟨rfl, ⟨nd, rfl⟩⟩; refine ⟨_, rfl, ?_⟩))
  go_ret
  exact ⟨Tl_, by repeat (first | (with_reducible first | exact HB.out | apply aa_ | apply ca_ | apply ga_ | refine ma_ ?_ GE257.out) | exact HB.out)⟩
 replace c3 := Bool.eq_false_iff.mpr c3
 subst c3
 have H1 : (some false) = some r := by rw [if_neg (show ¬ (false = true) by decide)] at H; exact H
 clear H
 have H := H1
 clear H1
 obtain rfl := Option.some.inj H
 go_enter Tryz.func12, Tryz.ntmps12
 go_wp2_with (first | ((with_reducible refine gd_ 1 ?_); (try (refine dg_ Vh_ ?_; dsimp only)); refine te_ rfl (N := 1) rfl (cs := #[.int .i64 a0_0, .int .i64 a0_1, .int .i64 a0_2, .int .i64 a0_3, .slice A0_4 l0_4.length c0_4, .bool a0_5]) (t := 24) Tx_ ?_; intro gb257 hg w6 hbox hb; have n0_ := aM_ (da_ Ta_ hb); have n1_ := aM_ (hbox); have n2_ := aM_ ((by rw [hg]; exact (na_ Ta_) : w.heap.size ≤ gb257)); have n3_ := aM_ ((by rw [hg]; exact (na_ Ta_) : w.heap.size ≤ gb257)); clear HB; have HB := n0_; have BK257 := n1_; have GW257 := n2_; have GE257 := n3_; clear n0_ n1_ n2_ n3_; clear hb hbox hg; have hcz7_0 : w6.cell? ⟨gb257, 0, none⟩ = some (.int .i64 a0_0) := (ba_ BK257.out 0).trans rfl; have hcz7_1 : w6.cell? ⟨gb257, 1, none⟩ = some (.int .i64 a0_1) := (ba_ BK257.out 1).trans rfl; have hcz7_2 : w6.cell? ⟨gb257, 2, none⟩ = some (.int .i64 a0_2) := (ba_ BK257.out 2).trans rfl; have hcz7_3 : w6.cell? ⟨gb257, 3, none⟩ = some (.int .i64 a0_3) := (ba_ BK257.out 3).trans rfl; have hcz7_4 : w6.cell? ⟨gb257, 4, none⟩ = some (.slice A0_4 l0_4.length c0_4) := (ba_ BK257.out 4).trans rfl; have hcz7_5 : w6.cell? ⟨gb257, 5, none⟩ = some (.bool a0_5) := (ba_ BK257.out 5).trans rfl; have hfz7_0 := ha_ BK257.out 0; have hfz7_1 := ha_ BK257.out 1; have hfz7_2 := ha_ BK257.out 2; have hfz7_3 := ha_ BK257.out 3; have hfz7_4 := ha_ BK257.out 4; have hfz7_5 := ha_ BK257.out 5) | ((with_reducible refine gd_ 5 ?_); refine gL_ Tryz.func30 #[.slice A0_4 l0_4.length c0_4] ?_; (with_reducible refine (l4_Few.calls _ _ _ _ _ _ (by repeat (first | exact (Kd.C_below HR0_4.out HB.out) | (with_reducible refine Kd.C_alloc ?_ _) | (with_reducible refine Kd.C_drewN ?_ _) | (with_reducible refine Kd.C_drew ?_))) HC0_4.out A2.out).mono ?_); rintro e w' ⟨rfl, ⟨nd, rfl⟩⟩; refine ⟨_, rfl, ?_⟩))
 go_ret
 exact ⟨Tl_, by repeat (first | (with_reducible first | exact HB.out | apply aa_ | apply ca_ | apply ga_ | refine ma_ ?_ GE257.out) | exact HB.out)⟩
def rk5 (x : Int) : Int := if x = 0 then 0 else if x = 9 then 2 else 1
def symB (x : Int) : Bool := decide (0 ≤ x) && decide (x < 20)
def riseB (r : S56) : Bool := match r.f1 with
 | [y] => !(symB r.f0 && symB y) || decide (rk5 r.f0 < rk5 y)
 | _ => true
def chkS (R : List S56) : Bool := decide (R.length ≤ 60) && (R.all yd_ && R.all riseB)
theorem gt_ (R : List S56) (h : chkS R = true) : uc_ R = true := by
 unfold chkS at h
 simp only [Bool.and_eq_true, decide_eq_true_eq] at h
 rw [gg_]
 refine ⟨h.1, h.2.1, fun x hx => cm_ _ rk5 (fun r hr y hy h1 h2 => ?_) x hx⟩
 have hb := List.all_eq_true.1 h.2.2 r hr
 unfold riseB at hb
 rw [hy] at hb
 have s1 : symB r.f0 = true := by unfold symB; rw [decide_eq_true h1.1, decide_eq_true h1.2]; rfl
 have s2 : symB y = true := by unfold symB; rw [decide_eq_true h2.1, decide_eq_true h2.2]; rfl
 simp only [s1, s2] at hb
 simpa using hb
theorem dates_ok : ∀ o : Fin 3, chkS (xd_ ++ lf_ ((o : Nat) : Int)) = true := by decide +kernel
def okI (n : Int) : Prop := -9223372036854775808 ≤ n ∧ n ≤ 9223372036854775807
def okEnt (e : S46) : Prop := e.f0.size ≤ 9223372036854775807 ∧ okI e.f1 ∧ okI e.f2
def okPart (x : S48) : Prop := okI x.f0 ∧ x.f1.size ≤ 9223372036854775807 ∧ okI x.f2 ∧ okI x.f3 ∧ okI x.f4
def is_ (l : List Int) : Prop := l.length ≤ 9223372036854775807 ∧ ∀ n ∈ l, okI n
def okRule (x : S56) : Prop := okI x.f0 ∧ is_ x.f1 ∧ okI x.f2.f0 ∧ is_ x.f2.f1 ∧ okI x.f3
def vt_ (x : S52) : Prop := okI x.f0 ∧ x.f1.length ≤ 9223372036854775807 ∧ ∀ y ∈ x.f1, okPart y
def okLoc8 (x : S44) : Prop := x.f0.size ≤ 9223372036854775807 ∧ okI x.f1 ∧ okI x.f2 ∧ (x.f3.length ≤ 9223372036854775807 ∧ ∀ y ∈ x.f3, okEnt y) ∧ (x.f4.length ≤ 9223372036854775807 ∧ ∀ y ∈ x.f4, okRule y) ∧ (x.f5.length ≤ 9223372036854775807 ∧ ∀ y ∈ x.f5, vt_ y)
noncomputable def l4_within.f (a0 : Int) (a1 : Int) : Option (Int) := if a1 = 0 then (none) else (if (Int.tmod a0 a1) < 0 then (some (wrap64 ((Int.tmod a0 a1) + a1))) else (some (Int.tmod a0 a1)))
theorem l4_within.calls (a0 : Int) (a1 : Int) (r : Int) (w : World) (h : l4_within.f a0 a1 = some r) :
  Calls Tryz.prog 122 #[.int .i64 a0, .int .i64 a1] w fun e w' => e = .returned (.int .i64 r) ∧ Drawn0 w w' := by
 have H : (if a1 = 0 then (none) else (if (Int.tmod a0 a1) < 0 then (some (wrap64 ((Int.tmod a0 a1) + a1))) else (some (Int.tmod a0 a1)))) = some r := h
 clear h
 by_cases c3 : a1 = 0
 ·rw [if_pos c3] at H
  exact absurd H Tt_
 rw [if_neg c3] at H
 have c3b0 : (a1 == 0) = false := beq_eq_false_iff_ne.mpr c3
 have c3b1 : (a1 != 0) = true := bne_iff_ne.mpr c3
 by_cases c4 : (Int.tmod a0 a1) < 0
 ·rw [if_pos c4] at H
  have c4b0 := decide_eq_true c4; clear c4; obtain rfl := Option.some.inj H
  go_enter Tryz.func122, Tryz.ntmps122
  go_wp2
  go_ret
  exact ⟨Tc_, Tb_⟩
 rw [if_neg c4] at H
 have c4b0 := decide_eq_false c4
 clear c4
 obtain rfl := Option.some.inj H
 go_enter Tryz.func122, Tryz.ntmps122
 go_wp2
 go_ret
 exact ⟨Tc_, Tb_⟩
mutual
noncomputable def l4_Raw_Make.l0 : Nat → Int → Int → Int → Int → Int → Int → List Int → List Int → Int → List Int → Int → Int → Option (Int × List Int × Int × List Int × Int)
 | 0, _, _, _, _, _, _, _, _, _, _, _, _ => none
 | k + 1, x1, x6, x7, x284000, x284001, x284002, x284003, x284004, x288000, x288001, x288002, x288004 => (l4_within.f (x284003.length : Int) 3).bind fun t293 => (if x7 < (wrap64 (1 + t293)) then (l4_Raw_Make.j1 k x1 x6 x7 true x284000 x284001 x284002 x284003 x284004 x288000 x288001 x288002 x288004) else (if x7 < x6 then ((l4_within.f (wrap64 (Int.tdiv x284001 16)) 2).bind fun t294 => (l4_Raw_Make.j1 k x1 x6 x7 (t294 == 0) x284000 x284001 x284002 x284003 x284004 x288000 x288001 x288002 x288004)) else (l4_Raw_Make.j1 k x1 x6 x7 false x284000 x284001 x284002 x284003 x284004 x288000 x288001 x288002 x288004)))
noncomputable def l4_Raw_Make.j1 : Nat → Int → Int → Int → Bool → Int → Int → Int → List Int → List Int → Int → List Int → Int → Int → Option (Int × List Int × Int × List Int × Int)
 | 0, _, _, _, _, _, _, _, _, _, _, _, _, _ => none
 | k + 1, x1, x6, x7, x49, x284000, x284001, x284002, x284003, x284004, x288000, x288001, x288002, x288004 => if x49 = true then (if x7 < (x284003.length : Int) then (if 0 ≤ x7 then (l4_Raw_Make.j2 k x1 x6 x7 (rd x284003 x7) x284000 x284001 x284002 x284003 x284004 x288000 x288001 x288002 x288004) else (none)) else (l4_Raw_Make.j2 k x1 x6 x7 x7 x284000 x284001 x284002 x284003 x284004 x288000 x288001 x288002 x288004)) else (l4_Raw_Make.l1 k x6 0 x284000 x284001 x284002 x284003 x284004 x288000 x288001 x288002 ([] : List Int) x288004)
noncomputable def l4_Raw_Make.j2 : Nat → Int → Int → Int → Int → Int → Int → Int → List Int → List Int → Int → List Int → Int → Int → Option (Int × List Int × Int × List Int × Int)
 | 0, _, _, _, _, _, _, _, _, _, _, _, _, _ => none
 | k + 1, x1, x6, x7, x8, x284000, x284001, x284002, x284003, x284004, x288000, x288001, x288002, x288004 => (l4_within.f x8 x1).bind fun t296 => ((l4_within.f (wrap64 (Int.tdiv x8 20)) 2).bind fun t297 => (if t297 = 0 then ((some (([0, 0, 0, 1, 2, 3, 50, 51, 52, 53, 54] : List Int) : List Int)).bind fun y298 => ((l4_within.f (wrap64 (Int.tdiv x8 40)) 11).bind fun t301 => (if 0 ≤ t301 then (if t301 < (y298.length : Int) then (if x288001.length < 17592186044416 then (l4_Raw_Make.l0 k x1 x6 (wrap64 (x7 + 1)) x284000 x284001 x284002 x284003 x284004 x288000 (x288001 ++ [wrap64 ((-1) - (rd y298 t301))]) x288002 x288004) else (none)) else (none)) else (none)))) else (if x288001.length < 17592186044416 then (l4_Raw_Make.l0 k x1 x6 (wrap64 (x7 + 1)) x284000 x284001 x284002 x284003 x284004 x288000 (x288001 ++ [t296]) x288002 x288004) else (none))))
noncomputable def l4_Raw_Make.l1 : Nat → Int → Int → Int → Int → Int → List Int → List Int → Int → List Int → Int → List Int → Int → Option (Int × List Int × Int × List Int × Int)
 | 0, _, _, _, _, _, _, _, _, _, _, _, _ => none
 | k + 1, x6, x10, x284000, x284001, x284002, x284003, x284004, x288000, x288001, x288002, x288003, x288004 => if x10 < x6 then (if x10 < (x284004.length : Int) then (if 0 ≤ x10 then ((l4_within.f (rd x284004 x10) (x288001.length : Int)).bind fun t310 => (if x288003.length < 17592186044416 then (l4_Raw_Make.l1 k x6 (wrap64 (x10 + 1)) x284000 x284001 x284002 x284003 x284004 x288000 x288001 x288002 (x288003 ++ [t310]) x288004) else (none))) else (none)) else ((l4_within.f x10 (x288001.length : Int)).bind fun t314 => (if x288003.length < 17592186044416 then (l4_Raw_Make.l1 k x6 (wrap64 (x10 + 1)) x284000 x284001 x284002 x284003 x284004 x288000 x288001 x288002 (x288003 ++ [t314]) x288004) else (none)))) else (some (x288000, x288001, x288002, x288003, x288004))
end
noncomputable def l4_Raw_Make.f (k : Nat) (a0_0 : Int) (a0_1 : Int) (a0_2 : Int) (l0_3 : List Int) (l0_4 : List Int) (a1 : Int) : Option (Int × List Int × Int × List Int × Int) := (l4_within.f a0_0 a1).bind fun t285 => ((l4_within.f a0_2 101).bind fun t286 => ((l4_within.f a0_1 16).bind fun t288 => ((some (([1, 3, 2, 2, 2, 2, 3, 1, 1, 2, 1, 1, 2, 2, 2, 2] : List Int) : List Int)).bind fun y289 => (if 0 ≤ t288 then (if t288 < (y289.length : Int) then (l4_Raw_Make.l0 k a1 (rd y289 t288) 0 a0_0 a0_1 a0_2 l0_3 l0_4 t285 ([] : List Int) t288 t286) else (none)) else (none)))))
def l4_Raw_Make.T1 : Bool × List (List Nat × List Nat) := (true, [([], []), ([0], [0]), ([], []), ([1, 2], [1, 2]), ([], []), ([4], [4]), ([5, 3], [5]), ([3, 6], [3, 6]), ([], []), ([8, 7, 6, 0, 1, 2, 3, 4, 5, 6, 7, 8], [7, 8])])
def l4_Raw_Make.B1 : List Nat := [0, 1, 0, 7, 0, 16, 63, 127, 0, 511]
theorem l4_Raw_Make.tab1 : rtab .any (opsOf Tryz.f73 1) = l4_Raw_Make.T1 := by kernel_rfl
theorem l4_Raw_Make.bits1 : fh_ l4_Raw_Make.T1.2 l4_Raw_Make.B1 = true := by kernel_rfl
def l4_Raw_Make.T20 : Bool × List (List Nat × List Nat) := (true, [([], []), ([0], [0]), ([1], [1]), ([], []), ([], []), ([4], [4]), ([5], [5]), ([3, 6], [3, 6]), ([7], [7]), ([2, 8, 7], [2, 8]), ([0, 1, 2, 3, 4, 5, 6, 7, 8, 9], []), ([10, 0, 1, 2, 3, 4, 5, 6, 7, 8, 9], [10]), ([11, 9, 9, 0, 1, 2, 3, 4, 5, 6, 7, 8, 9], [9, 11])])
def l4_Raw_Make.B20 : List Nat := [0, 1, 3, 0, 0, 16, 48, 120, 248, 511, 1023, 2047, 4095]
theorem l4_Raw_Make.tab20 : rtab .any (opsOf Tryz.f73 20) = l4_Raw_Make.T20 := by kernel_rfl
theorem l4_Raw_Make.bits20 : fh_ l4_Raw_Make.T20.2 l4_Raw_Make.B20 = true := by kernel_rfl
theorem l4_Raw_Make.calls (k : Nat) (a0_0 : Int) (a0_1 : Int) (a0_2 : Int) (A0_3 : Option Addr) (c0_3 : Nat) (l0_3 : List Int) (A0_4 : Option Addr) (c0_4 : Nat) (l0_4 : List Int) (a1 : Int) (r1 : Int) (r2 : List Int) (r3 : Int) (r4 : List Int) (r5 : Int) (w : World) (hr0_3 : Kd.C (Kd.int .i64) w A0_3 l0_3.length l0_3) (hc0_3 : l0_3.length ≤ c0_3) (hr0_4 : Kd.C (Kd.int .i64) w A0_4 l0_4.length l0_4) (hc0_4 : l0_4.length ≤ c0_4) (h : l4_Raw_Make.f k a0_0 a0_1 a0_2 l0_3 l0_4 a1 = some (r1, r2, r3, r4, r5)) :
  Calls Tryz.prog 73 #[.agg #[.int .i64 a0_0, .int .i64 a0_1, .int .i64 a0_2, .slice A0_3 l0_3.length c0_3, .slice A0_4 l0_4.length c0_4], .int .i64 a1] w fun e w' => ∃ v1_ v3_ : Value, e = .returned (.agg #[.int .i64 r1, v1_, .int .i64 r3, v3_, .int .i64 r5]) ∧ Kd.R (Kd.int .i64) 3 w' w.heap.size (fun k_ => some k_ ≠ (v3_ : Value).ownBlock) v1_ r2 ∧ Kd.R (Kd.int .i64) 3 w' w.heap.size (fun k_ => some k_ ≠ (v1_ : Value).ownBlock) v3_ r4 ∧ Below w.heap.size w w' := by
 have hu120 := Tryz.underlying120
 have hu56 := Tryz.underlying56
 have HR0_3 := aM_ hr0_3
 have HC0_3 := aM_ hc0_3
 clear hr0_3 hc0_3
 have HR0_4 := aM_ hr0_4
 have HC0_4 := aM_ hc0_4
 clear hr0_4 hc0_4
 have HB := aM_ (Below.refl w.heap.size w)
 have H : ((l4_within.f a0_0 a1).bind fun t285 => ((l4_within.f a0_2 101).bind fun t286 => ((l4_within.f a0_1 16).bind fun t288 => ((some (([1, 3, 2, 2, 2, 2, 3, 1, 1, 2, 1, 1, 2, 2, 2, 2] : List Int) : List Int)).bind fun y289 => (if 0 ≤ t288 then (if t288 < (y289.length : Int) then (l4_Raw_Make.l0 k a1 (rd y289 t288) 0 a0_0 a0_1 a0_2 l0_3 l0_4 t285 ([] : List Int) t288 t286) else (none)) else (none)))))) = some (r1, r2, r3, r4, r5) := h
 clear h
 replace H := bd_ H
 obtain ⟨t285, A3, H⟩ := H
 replace H := bd_ H
 obtain ⟨t286, A4, H⟩ := H
 replace H := bd_ H
 obtain ⟨t288, A5, H⟩ := H
 replace H := sb_ H
 obtain ⟨y289, Ny289, H⟩ := H
 by_cases c6 : 0 ≤ t288
 ·rw [if_pos c6] at H
  have c6b0 := decide_eq_true c6; clear c6
  by_cases c7 : t288 < (y289.length : Int)
  ·rw [if_pos c7] at H
   have c7b0 := decide_eq_true c7; clear c7; have H' := aM_ H; clear H
   go_enter Tryz.func73, Tryz.ntmps73
   try go_wp2_with (first | ((with_reducible refine gd_ 2 ?_); refine te_ rfl (N := 2) rfl (cs := #[.int .i64 a0_0, .int .i64 a0_1, .int .i64 a0_2, .slice A0_3 l0_3.length c0_3, .slice A0_4 l0_4.length c0_4]) (t := 120) Tx_ ?_; intro gb283 hg w8 hbox hb; have n0_ := aM_ (da_ Ta_ hb); have n1_ := aM_ (hbox); have n2_ := aM_ ((by rw [hg]; exact (na_ Ta_) : w.heap.size ≤ gb283)); have n3_ := aM_ ((by rw [hg]; exact (na_ Ta_) : w.heap.size ≤ gb283)); clear HB; have HB := n0_; have BK283 := n1_; have GW283 := n2_; have GE283 := n3_; clear n0_ n1_ n2_ n3_; clear hb hbox hg) | ((with_reducible refine gd_ 4 ?_); refine te_ rfl (N := 4) rfl (cs := #[.int .i64 0, .slice none 0 0, .int .i64 0, .slice none 0 0, .int .i64 0]) (t := 56) Tx_ ?_; intro gb284 hg w9 hbox hb; have n0_ := aM_ (la_ (g := gb283) (o := .cells #[.int .i64 a0_0, .int .i64 a0_1, .int .i64 a0_2, .slice A0_3 l0_3.length c0_3, .slice A0_4 l0_4.length c0_4] 120 (0, 0)) Tg_ hb); have n1_ := aM_ (da_ Vf_ hb); have n2_ := aM_ (hbox); have n3_ := aM_ ((by rw [hg]; exact (na_ Vf_) : w.heap.size ≤ gb284)); have n4_ := aM_ ((by rw [hg]; exact (na_ Vf_) : w.heap.size ≤ gb284)); have n5_ := aM_ ((by rw [hg]; exact Nat.ne_of_lt (bb_ (g := gb283) (o := .cells #[.int .i64 a0_0, .int .i64 a0_1, .int .i64 a0_2, .slice A0_3 l0_3.length c0_3, .slice A0_4 l0_4.length c0_4] 120 (0, 0)) Tg_) : gb283 ≠ gb284)); have n6_ := aM_ ((by rw [hg]; exact Nat.ne_of_gt (bb_ (g := gb283) (o := .cells #[.int .i64 a0_0, .int .i64 a0_1, .int .i64 a0_2, .slice A0_3 l0_3.length c0_3, .slice A0_4 l0_4.length c0_4] 120 (0, 0)) Tg_) : gb284 ≠ gb283)); clear BK283; clear HB; have BK283 := n0_; have HB := n1_; have BK284 := n2_; have GW284 := n3_; have GE284 := n4_; have NB283_284 := n5_; have NB284_283 := n6_; clear n0_ n1_ n2_ n3_ n4_ n5_ n6_; clear hb hbox hg))
   have n0_ := aM_ (ka_ BK283.out); have n1_ := aM_ (ka_ BK284.out); have n2_ := aM_ (ga_ HB.out); clear BK283; clear BK284; clear HB; have BK283 := n0_; have BK284 := n1_; have HB := n2_; clear n0_ n1_ n2_; refine fd_ (n := 10) (S := fun w' => w'.cell? ⟨gb283, 0, none⟩ = some (.int .i64 a0_0) ∧ w'.cell? ⟨gb283, 1, none⟩ = some (.int .i64 a0_1) ∧ w'.cell? ⟨gb283, 2, none⟩ = some (.int .i64 a0_2) ∧ w'.cell? ⟨gb283, 3, none⟩ = some (.slice A0_3 l0_3.length c0_3) ∧ w'.cell? ⟨gb283, 4, none⟩ = some (.slice A0_4 l0_4.length c0_4)) (ds := []) (f_ 10 0) Ti_ rfl rfl (cf5_ BK283.out) (fun hHeld => ?_); refine wg_ l4_Raw_Make.tab1 l4_Raw_Make.bits1 (fun HT_ HW_ => ?_); generalize w9.drew = w10 at BK283 BK284 HB hHeld ⊢; refine pV_ 0 ?_; refine pV_ 2 ?_; refine pV_ 4 ?_; refine tV5_ 1 ?_; refine tV5_ 5 ?_; refine join_ (σ := Nat) 1 (f_ 10 9) (fun s_ => [(15, .int .i64 t285), (18, .int .i64 t286), (5, .pointer (some ⟨s_, 0, none⟩)), (19, .agg #[.int .i64 t285, .slice none 0 0, .int .i64 0, .slice none 0 0, .int .i64 t286])]) (fun s_ w' => (w'.cell? ⟨gb283, 0, none⟩ = some (.int .i64 a0_0) ∧ w'.cell? ⟨gb283, 1, none⟩ = some (.int .i64 a0_1) ∧ w'.cell? ⟨gb283, 2, none⟩ = some (.int .i64 a0_2) ∧ w'.cell? ⟨gb283, 3, none⟩ = some (.slice A0_3 l0_3.length c0_3) ∧ w'.cell? ⟨gb283, 4, none⟩ = some (.slice A0_4 l0_4.length c0_4)) ∧ (w'.heap[gb283]? = some (.cells #[.int .i64 a0_0, .int .i64 a0_1, .int .i64 a0_2, .slice A0_3 l0_3.length c0_3, .slice A0_4 l0_4.length c0_4] 120 (0, 0))) ∧ (w'.heap[gb284]? = some (.cells #[.int .i64 0, .slice none 0 0, .int .i64 0, .slice none 0 0, .int .i64 0] 56 (0, 0))) ∧ (w'.heap[s_]? = some (.cells #[.int .i64 0, .slice none 0 0, .int .i64 0, .slice none 0 0, .int .i64 0] 56 (0, 0))) ∧ (w.heap.size ≤ s_) ∧ (w.heap.size ≤ s_) ∧ (gb283 ≠ s_) ∧ (s_ ≠ gb283) ∧ (gb284 ≠ s_) ∧ (s_ ≠ gb284) ∧ (Below w.heap.size w w')) ?_ ?_; rotate_left
   ·intro hCont
    refine wN_ 3 8 (fun K hK => ?_) fun K hK => ?_
    ·skip
     refine gO_ Tryz.func122 #[.int .i64 a0_0, .int .i64 a1] ?_
     with_reducible refine (l4_within.calls _ _ _ _ A3.out).mono ?_
     rintro e w' ⟨rfl, ⟨nd, rfl⟩⟩; refine ⟨_, rfl, ?_⟩; refine hK.out _ _ (cf5_ BK283.out) (fun hHeld => ?_); clear hK K; refine nO_ ?_; refine wN_ 6 8 (fun K hK => ?_) fun K hK => ?_
     ·skip
      refine gO_ Tryz.func122 #[.int .i64 a0_2, .int .i64 101] ?_
      with_reducible refine (l4_within.calls _ _ _ _ A4.out).mono ?_
      rintro e w' ⟨rfl, ⟨nd, rfl⟩⟩; refine ⟨_, rfl, ?_⟩; refine hK.out _ _ (cf5_ BK283.out) (fun hHeld => ?_); clear hK K; refine nO_ ?_; refine pV_ 7 ?_; refine oN_ 8 fun K hK => ?_
      refine wm_ rfl (N := 5) rfl (cs := #[.int .i64 0, .slice none 0 0, .int .i64 0, .slice none 0 0, .int .i64 0]) (t := 56) Tx_ ?_; intro gb287 hg w11 hbox hb; have n0_ := aM_ (la_ (g := gb283) (o := .cells #[.int .i64 a0_0, .int .i64 a0_1, .int .i64 a0_2, .slice A0_3 l0_3.length c0_3, .slice A0_4 l0_4.length c0_4] 120 (0, 0)) Tg_ hb); have n1_ := aM_ (la_ (g := gb284) (o := .cells #[.int .i64 0, .slice none 0 0, .int .i64 0, .slice none 0 0, .int .i64 0] 56 (0, 0)) Tj_ hb); have n2_ := aM_ (da_ To_ hb); have n3_ := aM_ (hbox); have n4_ := aM_ ((by rw [hg]; exact (na_ To_) : w.heap.size ≤ gb287)); have n5_ := aM_ ((by rw [hg]; exact (na_ To_) : w.heap.size ≤ gb287)); have n6_ := aM_ ((by rw [hg]; exact Nat.ne_of_lt (bb_ (g := gb283) (o := .cells #[.int .i64 a0_0, .int .i64 a0_1, .int .i64 a0_2, .slice A0_3 l0_3.length c0_3, .slice A0_4 l0_4.length c0_4] 120 (0, 0)) Tg_) : gb283 ≠ gb287)); have n7_ := aM_ ((by rw [hg]; exact Nat.ne_of_gt (bb_ (g := gb283) (o := .cells #[.int .i64 a0_0, .int .i64 a0_1, .int .i64 a0_2, .slice A0_3 l0_3.length c0_3, .slice A0_4 l0_4.length c0_4] 120 (0, 0)) Tg_) : gb287 ≠ gb283)); have n8_ := aM_ ((by rw [hg]; exact Nat.ne_of_lt (bb_ (g := gb284) (o := .cells #[.int .i64 0, .slice none 0 0, .int .i64 0, .slice none 0 0, .int .i64 0] 56 (0, 0)) Tj_) : gb284 ≠ gb287)); have n9_ := aM_ ((by rw [hg]; exact Nat.ne_of_gt (bb_ (g := gb284) (o := .cells #[.int .i64 0, .slice none 0 0, .int .i64 0, .slice none 0 0, .int .i64 0] 56 (0, 0)) Tj_) : gb287 ≠ gb284))
      clear BK283; clear BK284; clear HB; have BK283 := n0_; have BK284 := n1_; have HB := n2_; have BK287 := n3_; have GW287 := n4_; have GE287 := n5_; have NB283_287 := n6_; have NB287_283 := n7_; have NB284_287 := n8_; have NB287_284 := n9_; clear n0_ n1_ n2_ n3_ n4_ n5_ n6_ n7_ n8_ n9_; clear hb hbox hg; refine hK.out _ _ (cf5_ BK283.out) (fun hHeld => ?_); clear hK K; refine nO_ ?_; exact fN_ (hCont (gb287) _ ⟨hHeld, Tg_, Tj_, Tn_, GW287.out, GE287.out, NB283_287.out, NB287_283.out, NB284_287.out, NB287_284.out, Tf_⟩)
     skip
     refine wm_ rfl (N := 5) rfl (cs := #[.int .i64 0, .slice none 0 0, .int .i64 0, .slice none 0 0, .int .i64 0]) (t := 56) Tx_ ?_; intro gb287 hg w11 hbox hb; have n0_ := aM_ (la_ (g := gb283) (o := .cells #[.int .i64 a0_0, .int .i64 a0_1, .int .i64 a0_2, .slice A0_3 l0_3.length c0_3, .slice A0_4 l0_4.length c0_4] 120 (0, 0)) Tg_ hb); have n1_ := aM_ (la_ (g := gb284) (o := .cells #[.int .i64 0, .slice none 0 0, .int .i64 0, .slice none 0 0, .int .i64 0] 56 (0, 0)) Tj_ hb); have n2_ := aM_ (da_ To_ hb); have n3_ := aM_ (hbox); have n4_ := aM_ ((by rw [hg]; exact (na_ To_) : w.heap.size ≤ gb287)); have n5_ := aM_ ((by rw [hg]; exact (na_ To_) : w.heap.size ≤ gb287)); have n6_ := aM_ ((by rw [hg]; exact Nat.ne_of_lt (bb_ (g := gb283) (o := .cells #[.int .i64 a0_0, .int .i64 a0_1, .int .i64 a0_2, .slice A0_3 l0_3.length c0_3, .slice A0_4 l0_4.length c0_4] 120 (0, 0)) Tg_) : gb283 ≠ gb287)); have n7_ := aM_ ((by rw [hg]; exact Nat.ne_of_gt (bb_ (g := gb283) (o := .cells #[.int .i64 a0_0, .int .i64 a0_1, .int .i64 a0_2, .slice A0_3 l0_3.length c0_3, .slice A0_4 l0_4.length c0_4] 120 (0, 0)) Tg_) : gb287 ≠ gb283)); have n8_ := aM_ ((by rw [hg]; exact Nat.ne_of_lt (bb_ (g := gb284) (o := .cells #[.int .i64 0, .slice none 0 0, .int .i64 0, .slice none 0 0, .int .i64 0] 56 (0, 0)) Tj_) : gb284 ≠ gb287)); have n9_ := aM_ ((by rw [hg]; exact Nat.ne_of_gt (bb_ (g := gb284) (o := .cells #[.int .i64 0, .slice none 0 0, .int .i64 0, .slice none 0 0, .int .i64 0] 56 (0, 0)) Tj_) : gb287 ≠ gb284))
     clear BK283; clear BK284; clear HB; have BK283 := n0_; have BK284 := n1_; have HB := n2_; have BK287 := n3_; have GW287 := n4_; have GE287 := n5_; have NB283_287 := n6_; have NB287_283 := n7_; have NB284_287 := n8_; have NB287_284 := n9_; clear n0_ n1_ n2_ n3_ n4_ n5_ n6_ n7_ n8_ n9_; clear hb hbox hg; refine hK.out _ _ (cf5_ BK283.out) (fun hHeld => ?_); clear hK K; refine nO_ ?_; refine oN_ 6 fun K hK => ?_
     refine gO_ Tryz.func122 #[.int .i64 a0_2, .int .i64 101] ?_
     with_reducible refine (l4_within.calls _ _ _ _ A4.out).mono ?_
     rintro e w' ⟨rfl, ⟨nd, rfl⟩⟩; refine ⟨_, rfl, ?_⟩; refine hK.out _ _ (cf5_ BK283.out) (fun hHeld => ?_); clear hK K; refine nO_ ?_; refine pV_ 7 ?_; exact fN_ (hCont (gb287) _ ⟨hHeld, Tg_, Tj_, Tn_, GW287.out, GE287.out, NB283_287.out, NB287_283.out, NB284_287.out, NB287_284.out, Tf_⟩)
    skip
    refine wm_ rfl (N := 5) rfl (cs := #[.int .i64 0, .slice none 0 0, .int .i64 0, .slice none 0 0, .int .i64 0]) (t := 56) Tx_ ?_; intro gb287 hg w11 hbox hb; have n0_ := aM_ (la_ (g := gb283) (o := .cells #[.int .i64 a0_0, .int .i64 a0_1, .int .i64 a0_2, .slice A0_3 l0_3.length c0_3, .slice A0_4 l0_4.length c0_4] 120 (0, 0)) Tg_ hb); have n1_ := aM_ (la_ (g := gb284) (o := .cells #[.int .i64 0, .slice none 0 0, .int .i64 0, .slice none 0 0, .int .i64 0] 56 (0, 0)) Tj_ hb); have n2_ := aM_ (da_ To_ hb); have n3_ := aM_ (hbox); have n4_ := aM_ ((by rw [hg]; exact (na_ To_) : w.heap.size ≤ gb287)); have n5_ := aM_ ((by rw [hg]; exact (na_ To_) : w.heap.size ≤ gb287)); have n6_ := aM_ ((by rw [hg]; exact Nat.ne_of_lt (bb_ (g := gb283) (o := .cells #[.int .i64 a0_0, .int .i64 a0_1, .int .i64 a0_2, .slice A0_3 l0_3.length c0_3, .slice A0_4 l0_4.length c0_4] 120 (0, 0)) Tg_) : gb283 ≠ gb287)); have n7_ := aM_ ((by rw [hg]; exact Nat.ne_of_gt (bb_ (g := gb283) (o := .cells #[.int .i64 a0_0, .int .i64 a0_1, .int .i64 a0_2, .slice A0_3 l0_3.length c0_3, .slice A0_4 l0_4.length c0_4] 120 (0, 0)) Tg_) : gb287 ≠ gb283)); have n8_ := aM_ ((by rw [hg]; exact Nat.ne_of_lt (bb_ (g := gb284) (o := .cells #[.int .i64 0, .slice none 0 0, .int .i64 0, .slice none 0 0, .int .i64 0] 56 (0, 0)) Tj_) : gb284 ≠ gb287)); have n9_ := aM_ ((by rw [hg]; exact Nat.ne_of_gt (bb_ (g := gb284) (o := .cells #[.int .i64 0, .slice none 0 0, .int .i64 0, .slice none 0 0, .int .i64 0] 56 (0, 0)) Tj_) : gb287 ≠ gb284))
    clear BK283; clear BK284; clear HB; have BK283 := n0_; have BK284 := n1_; have HB := n2_; have BK287 := n3_; have GW287 := n4_; have GE287 := n5_; have NB283_287 := n6_; have NB287_283 := n7_; have NB284_287 := n8_; have NB287_284 := n9_; clear n0_ n1_ n2_ n3_ n4_ n5_ n6_ n7_ n8_ n9_; clear hb hbox hg; refine hK.out _ _ (cf5_ BK283.out) (fun hHeld => ?_); clear hK K; refine nO_ ?_; refine oN_ 3 fun K hK => ?_
    refine gO_ Tryz.func122 #[.int .i64 a0_0, .int .i64 a1] ?_
    with_reducible refine (l4_within.calls _ _ _ _ A3.out).mono ?_
    rintro e w' ⟨rfl, ⟨nd, rfl⟩⟩; refine ⟨_, rfl, ?_⟩; refine hK.out _ _ (cf5_ BK283.out) (fun hHeld => ?_); clear hK K; refine nO_ ?_; refine oN_ 6 fun K hK => ?_
    refine gO_ Tryz.func122 #[.int .i64 a0_2, .int .i64 101] ?_
    with_reducible refine (l4_within.calls _ _ _ _ A4.out).mono ?_
    rintro e w' ⟨rfl, ⟨nd, rfl⟩⟩; refine ⟨_, rfl, ?_⟩; refine hK.out _ _ (cf5_ BK283.out) (fun hHeld => ?_); clear hK K; refine nO_ ?_; refine pV_ 7 ?_; exact fN_ (hCont (gb287) _ ⟨hHeld, Tg_, Tj_, Tn_, GW287.out, GE287.out, NB283_287.out, NB287_283.out, NB284_287.out, NB287_284.out, Tf_⟩)
   rintro gb287 w12 ⟨hS_, h0_, h1_, h2_, h3_, h4_, h5_, h6_, h7_, h8_, h9_⟩; have n0_ : Az (w12.heap[gb283]? = some (.cells #[.int .i64 a0_0, .int .i64 a0_1, .int .i64 a0_2, .slice A0_3 l0_3.length c0_3, .slice A0_4 l0_4.length c0_4] 120 (0, 0))) := ⟨h0_⟩; have n1_ : Az (w12.heap[gb284]? = some (.cells #[.int .i64 0, .slice none 0 0, .int .i64 0, .slice none 0 0, .int .i64 0] 56 (0, 0))) := ⟨h1_⟩; have n2_ : Az (w12.heap[gb287]? = some (.cells #[.int .i64 0, .slice none 0 0, .int .i64 0, .slice none 0 0, .int .i64 0] 56 (0, 0))) := ⟨h2_⟩; have n3_ : Az (w.heap.size ≤ gb287) := ⟨h3_⟩; have n4_ : Az (w.heap.size ≤ gb287) := ⟨h4_⟩; have n5_ : Az (gb283 ≠ gb287) := ⟨h5_⟩; have n6_ : Az (gb287 ≠ gb283) := ⟨h6_⟩; have n7_ : Az (gb284 ≠ gb287) := ⟨h7_⟩; have n8_ : Az (gb287 ≠ gb284) := ⟨h8_⟩; have n9_ : Az (Below w.heap.size w w12) := ⟨h9_⟩; clear BK283; clear BK284; clear HB; clear h0_ h1_ h2_ h3_ h4_ h5_ h6_ h7_ h8_ h9_; have BK283 := n0_; have BK284 := n1_; have BK287 := n2_; have GW287 := n3_; have GE287 := n4_; have NB283_287 := n5_; have NB287_283 := n6_; have NB284_287 := n7_; have NB287_284 := n8_; have HB := n9_; clear n0_ n1_ n2_ n3_ n4_ n5_ n6_ n7_ n8_ n9_; have hHeld : w12.cell? ⟨gb283, 0, none⟩ = some (.int .i64 a0_0) ∧ w12.cell? ⟨gb283, 1, none⟩ = some (.int .i64 a0_1) ∧ w12.cell? ⟨gb283, 2, none⟩ = some (.int .i64 a0_2) ∧ w12.cell? ⟨gb283, 3, none⟩ = some (.slice A0_3 l0_3.length c0_3) ∧ w12.cell? ⟨gb283, 4, none⟩ = some (.slice A0_4 l0_4.length c0_4) := hS_; refine bm_ (a' := ?_) ?_ ?_; rotate_left
   ·simp only [ik_, Act.put, s1_, s2_, s3_]
    rfl
   refine oN_ 9 fun K hK => ?_
   have hs13 : w12.cell? ⟨gb287, 0, none⟩ = some (.int .i64 0) := (ba_ BK287.out 0).trans rfl; have hfs13 := ha_ BK287.out 0; have hns13_0 := NB283_287.out; have hns13_1 := NB284_287.out; have hms13_0 := NB287_283.out; have hms13_1 := NB287_284.out; have hs14 : w12.cell? ⟨gb287, 1, none⟩ = some (.slice none 0 0) := (ba_ BK287.out 1).trans rfl; have hfs14 := ha_ BK287.out 1; have hns14_0 := NB283_287.out; have hns14_1 := NB284_287.out; have hms14_0 := NB287_283.out; have hms14_1 := NB287_284.out; have hs15 : w12.cell? ⟨gb287, 2, none⟩ = some (.int .i64 0) := (ba_ BK287.out 2).trans rfl; have hfs15 := ha_ BK287.out 2; have hns15_0 := NB283_287.out; have hns15_1 := NB284_287.out; have hms15_0 := NB287_283.out; have hms15_1 := NB287_284.out; have hs16 : w12.cell? ⟨gb287, 3, none⟩ = some (.slice none 0 0) := (ba_ BK287.out 3).trans rfl; have hfs16 := ha_ BK287.out 3; have hns16_0 := NB283_287.out; have hns16_1 := NB284_287.out; have hms16_0 := NB287_283.out; have hms16_1 := NB287_284.out; have hs17 : w12.cell? ⟨gb287, 4, none⟩ = some (.int .i64 0) := (ba_ BK287.out 4).trans rfl; have hfs17 := ha_ BK287.out 4; have hns17_0 := NB283_287.out; have hns17_1 := NB284_287.out; have hms17_0 := NB287_283.out; have hms17_1 := NB287_284.out; refine uf_ (w1 := ?_) Vh_ rfl ?_ ?_; rotate_left
   ·go_simp
    rfl
   refine hK.out _ _ ⟨((gc_ (p := ⟨gb287, _, none⟩) NB283_287.out _).trans (((gc_ (p := ⟨gb287, _, none⟩) NB283_287.out _).trans (((gc_ (p := ⟨gb287, _, none⟩) NB283_287.out _).trans (((gc_ (p := ⟨gb287, _, none⟩) NB283_287.out _).trans (((gc_ (p := ⟨gb287, _, none⟩) NB283_287.out _).trans (hHeld.1)))))))))), ((gc_ (p := ⟨gb287, _, none⟩) NB283_287.out _).trans (((gc_ (p := ⟨gb287, _, none⟩) NB283_287.out _).trans (((gc_ (p := ⟨gb287, _, none⟩) NB283_287.out _).trans (((gc_ (p := ⟨gb287, _, none⟩) NB283_287.out _).trans (((gc_ (p := ⟨gb287, _, none⟩) NB283_287.out _).trans (hHeld.2.1)))))))))), ((gc_ (p := ⟨gb287, _, none⟩) NB283_287.out _).trans (((gc_ (p := ⟨gb287, _, none⟩) NB283_287.out _).trans (((gc_ (p := ⟨gb287, _, none⟩) NB283_287.out _).trans (((gc_ (p := ⟨gb287, _, none⟩) NB283_287.out _).trans (((gc_ (p := ⟨gb287, _, none⟩) NB283_287.out _).trans (hHeld.2.2.1)))))))))), ((gc_ (p := ⟨gb287, _, none⟩) NB283_287.out _).trans (((gc_ (p := ⟨gb287, _, none⟩) NB283_287.out _).trans (((gc_ (p := ⟨gb287, _, none⟩) NB283_287.out _).trans (((gc_ (p := ⟨gb287, _, none⟩) NB283_287.out _).trans (((gc_ (p := ⟨gb287, _, none⟩) NB283_287.out _).trans (hHeld.2.2.2.1)))))))))), ((gc_ (p := ⟨gb287, _, none⟩) NB283_287.out _).trans (((gc_ (p := ⟨gb287, _, none⟩) NB283_287.out _).trans (((gc_ (p := ⟨gb287, _, none⟩) NB283_287.out _).trans (((gc_ (p := ⟨gb287, _, none⟩) NB283_287.out _).trans (((gc_ (p := ⟨gb287, _, none⟩) NB283_287.out _).trans (hHeld.2.2.2.2))))))))))⟩ (fun hHeld => ?_); clear hK K; refine wd_ (yj_ HT_.out Ti_) ?_; have hnb18 := NB283_284.out; have hnc18 := NB284_283.out; have hnb19 := NB283_287.out; have hnc19 := NB287_283.out; obtain ⟨_, _, _, _, _, _, _, _, _, _⟩ := cs5_ BK283.out
   try go_wp2_with (first | ((with_reducible refine gd_ 22 ?_); refine gQ_ Tryz.func122 (l4_within.calls _ _ _ _ A5.out) fun nd => ?_; have hnb21 := NB287_284.out; have hnc21 := NB284_287.out; have hcz22_0 : w12.cell? ⟨gb287, 0, none⟩ = some (.int .i64 0) := (ba_ BK287.out 0).trans rfl; have hcz22_1 : w12.cell? ⟨gb287, 1, none⟩ = some (.slice none 0 0) := (ba_ BK287.out 1).trans rfl; have hcz22_2 : w12.cell? ⟨gb287, 2, none⟩ = some (.int .i64 0) := (ba_ BK287.out 2).trans rfl; have hcz22_3 : w12.cell? ⟨gb287, 3, none⟩ = some (.slice none 0 0) := (ba_ BK287.out 3).trans rfl; have hcz22_4 : w12.cell? ⟨gb287, 4, none⟩ = some (.int .i64 0) := (ba_ BK287.out 4).trans rfl; have hfz22_0 := ha_ BK287.out 0; have hfz22_1 := ha_ BK287.out 1; have hfz22_2 := ha_ BK287.out 2; have hfz22_3 := ha_ BK287.out 3; have hfz22_4 := ha_ BK287.out 4) | ((with_reducible refine gd_ 25 ?_); refine Kd.R_lit (Kd.int .i64) _ 3 rfl (N := 25) rfl (xs := ([1, 3, 2, 2, 2, 2, 3, 1, 1, 2, 1, 1, 2, 2, 2, 2] : List Int)) (inner := [.int .i64 1, .int .i64 3, .int .i64 2, .int .i64 2, .int .i64 2, .int .i64 2, .int .i64 3, .int .i64 1, .int .i64 1, .int .i64 2, .int .i64 1, .int .i64 1, .int .i64 2, .int .i64 2, .int .i64 2, .int .i64 2]) (ok := fun _ => True) (okp := fun _ => True) Tx_ ?hp (fun _ hk => hk) trivial (Below.refl _ _) (Nat.le_refl _) Tt_ ?_; (case hp => exact (Reps.one (show Kd.M (Kd.int .i64) _ _ _ 1 [.int .i64 1] from rfl) (Reps.one (show Kd.M (Kd.int .i64) _ _ _ 3 [.int .i64 3] from rfl) (Reps.one (show Kd.M (Kd.int .i64) _ _ _ 2 [.int .i64 2] from rfl) (Reps.one (show Kd.M (Kd.int .i64) _ _ _ 2 [.int .i64 2] from rfl) (Reps.one (show Kd.M (Kd.int .i64) _ _ _ 2 [.int .i64 2] from rfl) (Reps.one (show Kd.M (Kd.int .i64) _ _ _ 2 [.int .i64 2] from rfl) (Reps.one (show Kd.M (Kd.int .i64) _ _ _ 3 [.int .i64 3] from rfl) (Reps.one (show Kd.M (Kd.int .i64) _ _ _ 1 [.int .i64 1] from rfl) (Reps.one (show Kd.M (Kd.int .i64) _ _ _ 1 [.int .i64 1] from rfl) (Reps.one (show Kd.M (Kd.int .i64) _ _ _ 2 [.int .i64 2] from rfl) (Reps.one (show Kd.M (Kd.int .i64) _ _ _ 1 [.int .i64 1] from rfl) (Reps.one (show Kd.M (Kd.int .i64) _ _ _ 1 [.int .i64 1] from rfl) (Reps.one (show Kd.M (Kd.int .i64) _ _ _ 2 [.int .i64 2] from rfl) (Reps.one (show Kd.M (Kd.int .i64) _ _ _ 2 [.int .i64 2] from rfl) (Reps.one (show Kd.M (Kd.int .i64) _ _ _ 2 [.int .i64 2] from rfl) (Reps.one (show Kd.M (Kd.int .i64) _ _ _ 2 [.int .i64 2] from rfl) (Reps.none _ _)))))))))))))))))); intro v290 w23 ho24 hb hg_ hnew_; clear hg_ hnew_; (first | rw [← Ny289.out] at ho24 | (simp only [Int.reduceToNat] at ho24; rw [← Ny289.out] at ho24)); have n0_ := aM_ (Kd.R_lower ho24 (na_ Tf_)); have n1_ := aM_ (la_ (g := gb283) (o := .cells #[.int .i64 a0_0, .int .i64 a0_1, .int .i64 a0_2, .slice A0_3 l0_3.length c0_3, .slice A0_4 l0_4.length c0_4] 120 (0, 0)) (by (with_reducible repeat (first | refine ja_ ?_ _ | refine ka_ ?_ | refine ia_ ?_ _)); refine ed_ ?_ NB283_287.out _; (with_reducible repeat (first | refine ja_ ?_ _ | refine ka_ ?_ | refine ia_ ?_ _)); refine ed_ ?_ NB283_287.out _; (with_reducible repeat (first | refine ja_ ?_ _ | refine ka_ ?_ | refine ia_ ?_ _)); refine ed_ ?_ NB283_287.out _; (with_reducible repeat (first | refine ja_ ?_ _ | refine ka_ ?_ | refine ia_ ?_ _)); refine ed_ ?_ NB283_287.out _; (with_reducible repeat (first | refine ja_ ?_ _ | refine ka_ ?_ | refine ia_ ?_ _)); refine ed_ ?_ NB283_287.out _; (with_reducible repeat (first | refine ja_ ?_ _ | refine ka_ ?_ | refine ia_ ?_ _)); refine ed_ ?_ NB283_287.out _; (with_reducible repeat (first | refine ja_ ?_ _ | refine ka_ ?_ | refine ia_ ?_ _)); exact BK283.out) hb); have n2_ := aM_ (la_ (g := gb284) (o := .cells #[.int .i64 0, .slice none 0 0, .int .i64 0, .slice none 0 0, .int .i64 0] 56 (0, 0)) (by (with_reducible repeat (first | refine ja_ ?_ _ | refine ka_ ?_ | refine ia_ ?_ _)); refine ed_ ?_ NB284_287.out _; (with_reducible repeat (first | refine ja_ ?_ _ | refine ka_ ?_ | refine ia_ ?_ _)); refine ed_ ?_ NB284_287.out _; (with_reducible repeat (first | refine ja_ ?_ _ | refine ka_ ?_ | refine ia_ ?_ _)); refine ed_ ?_ NB284_287.out _; (with_reducible repeat (first | refine ja_ ?_ _ | refine ka_ ?_ | refine ia_ ?_ _)); refine ed_ ?_ NB284_287.out _; (with_reducible repeat (first | refine ja_ ?_ _ | refine ka_ ?_ | refine ia_ ?_ _)); refine ed_ ?_ NB284_287.out _; (with_reducible repeat (first | refine ja_ ?_ _ | refine ka_ ?_ | refine ia_ ?_ _)); refine ed_ ?_ NB284_287.out _; (with_reducible repeat (first | refine ja_ ?_ _ | refine ka_ ?_ | refine ia_ ?_ _)); exact BK284.out) hb); have n3_ := aM_ (la_ (g := gb287) (o := .cells #[.int .i64 t285, .slice none 0 0, .int .i64 t288, .slice none 0 0, .int .i64 t286] 56 (0, 0)) (by (with_reducible repeat (first | refine ja_ ?_ _ | refine ka_ ?_ | refine ia_ ?_ _)); refine jc_ (cs := #[.int .i64 t285, .slice none 0 0, .int .i64 0, .slice none 0 0, .int .i64 t286]) ?_ 2 _ rfl; (with_reducible repeat (first | refine ja_ ?_ _ | refine ka_ ?_ | refine ia_ ?_ _)); refine jc_ (cs := #[.int .i64 t285, .slice none 0 0, .int .i64 0, .slice none 0 0, .int .i64 0]) ?_ 4 _ rfl; (with_reducible repeat (first | refine ja_ ?_ _ | refine ka_ ?_ | refine ia_ ?_ _)); refine jc_ (cs := #[.int .i64 t285, .slice none 0 0, .int .i64 0, .slice none 0 0, .int .i64 0]) ?_ 3 _ rfl; (with_reducible repeat (first | refine ja_ ?_ _ | refine ka_ ?_ | refine ia_ ?_ _)); refine jc_ (cs := #[.int .i64 t285, .slice none 0 0, .int .i64 0, .slice none 0 0, .int .i64 0]) ?_ 2 _ rfl; (with_reducible repeat (first | refine ja_ ?_ _ | refine ka_ ?_ | refine ia_ ?_ _)); refine jc_ (cs := #[.int .i64 t285, .slice none 0 0, .int .i64 0, .slice none 0 0, .int .i64 0]) ?_ 1 _ rfl; (with_reducible repeat (first | refine ja_ ?_ _ | refine ka_ ?_ | refine ia_ ?_ _)); refine jc_ (cs := #[.int .i64 0, .slice none 0 0, .int .i64 0, .slice none 0 0, .int .i64 0]) ?_ 0 _ rfl; (with_reducible repeat (first | refine ja_ ?_ _ | refine ka_ ?_ | refine ia_ ?_ _)); exact BK287.out) hb); have n4_ := aM_ (da_ Tf_ hb); clear BK283; clear BK284; clear BK287; clear HB; have HO291 := n0_; have BK283 := n1_; have BK284 := n2_; have BK287 := n3_; have HB := n4_; clear n0_ n1_ n2_ n3_ n4_; clear hb ho24; have hcz25_0 : w23.cell? ⟨gb287, 0, none⟩ = some (.int .i64 t285) := (ba_ BK287.out 0).trans rfl; have hcz25_1 : w23.cell? ⟨gb287, 1, none⟩ = some (.slice none 0 0) := (ba_ BK287.out 1).trans rfl; have hcz25_2 : w23.cell? ⟨gb287, 2, none⟩ = some (.int .i64 t288) := (ba_ BK287.out 2).trans rfl; have hcz25_3 : w23.cell? ⟨gb287, 3, none⟩ = some (.slice none 0 0) := (ba_ BK287.out 3).trans rfl; have hcz25_4 : w23.cell? ⟨gb287, 4, none⟩ = some (.int .i64 t286) := (ba_ BK287.out 4).trans rfl; have hfz25_0 := ha_ BK287.out 0; have hfz25_1 := ha_ BK287.out 1; have hfz25_2 := ha_ BK287.out 2; have hfz25_3 := ha_ BK287.out 3; have hfz25_4 := ha_ BK287.out 4; obtain ⟨Ao26, co26, eo26⟩ := Kd.R_slice HO291.out; subst eo26; have p292 : 0 ≤ (t288 : Int) := of_decide_eq_true Te_; have q292 : t288 < (y289.length : Int) := of_decide_eq_true Te_; obtain ⟨ad292, e292, hx292_0⟩ := Kd.at_int (Kd.R_reads' HO291.out).2.2 t288 p292 q292; cases e292; replace p292 := eq_true p292; replace q292 := eq_true q292))
   go_loopg [7] k (fun kq v7 w' => ∃ (x7_1 : Int) (x288001_1 : List Int) (u288001 : Value), v7 = .int .i64 x7_1 ∧ Az (l4_Raw_Make.l0 kq a1 (rd y289 t288) x7_1 a0_0 a0_1 a0_2 l0_3 l0_4 t285 x288001_1 t288 t286 = some (r1, r2, r3, r4, r5)) ∧ Az (kq ≤ k) ∧ Az (Kd.R (Kd.int .i64) 3 w' w.heap.size (fun _ => True) u288001 x288001_1) ∧ Az (w'.heap[gb283]? = some (.cells #[.int .i64 a0_0, .int .i64 a0_1, .int .i64 a0_2, (.slice A0_3 l0_3.length c0_3), (.slice A0_4 l0_4.length c0_4)] 120 (0, 0))) ∧ Az (w'.heap[gb284]? = some (.cells #[.int .i64 0, (.slice none 0 0), .int .i64 0, (.slice none 0 0), .int .i64 0] 56 (0, 0))) ∧ Az (w'.heap[gb287]? = some (.cells #[.int .i64 t285, u288001, .int .i64 t288, (.slice none 0 0), .int .i64 t286] 56 (0, 0))) ∧ Az (Below w.heap.size w w'))
   case atStart => exact ⟨(0), (([] : List Int)), (.slice none 0 0), Tc_, H', ⟨Nat.le_refl _⟩, ⟨Ut_⟩, ⟨Tg_⟩, ⟨Tj_⟩, ⟨Tn_⟩, ⟨Tf_⟩⟩
   clear H'; obtain ⟨x7_1, x288001_1, u288001, rfl, HA, HK1, HO_288001, BK283, BK284, BK287, HB⟩ := hrel
   cases gk with
   | zero => exact absurd HA.out (by simp [l4_Raw_Make.l0])
   | succ k1 =>
    have H := HA.out; clear HA; simp only [l4_Raw_Make.l0] at H; have HC27 := aM_ H; clear H
    go_upto_region 5 with (fail)
    go_cut [49] (fun v49 wc => ∃ (kq : Nat) (x49_26 : Bool), v49 = .bool x49_26 ∧ Az (l4_Raw_Make.j1 kq a1 (rd y289 t288) x7_1 x49_26 a0_0 a0_1 a0_2 l0_3 l0_4 t285 x288001_1 t288 t286 = some (r1, r2, r3, r4, r5)) ∧ Az (kq ≤ k1) ∧ Az (Kd.R (Kd.int .i64) 3 wc w.heap.size (fun _ => True) u288001 x288001_1) ∧ Az (wc.heap[gb283]? = some (.cells #[.int .i64 a0_0, .int .i64 a0_1, .int .i64 a0_2, (.slice A0_3 l0_3.length c0_3), (.slice A0_4 l0_4.length c0_4)] 120 (0, 0))) ∧ Az (wc.heap[gb284]? = some (.cells #[.int .i64 0, (.slice none 0 0), .int .i64 0, (.slice none 0 0), .int .i64 0] 56 (0, 0))) ∧ Az (wc.heap[gb287]? = some (.cells #[.int .i64 t285, u288001, .int .i64 t288, (.slice none 0 0), .int .i64 t286] 56 (0, 0))) ∧ Az (Below w.heap.size w wc))
    case first =>
     have H := HC27.out; clear HC27; replace H := bd_ H; obtain ⟨t293, A28, H⟩ := H
     by_cases c29 : x7_1 < (wrap64 (1 + t293))
     ·rw [if_pos c29] at H
      have c29b0 := decide_eq_true c29; clear c29
      (first | rw [c29b0] | (simp only [ya_, za_]; rw [c29b0]) | skip)
      have H' := aM_ H; clear H; have hnb30 := NB283_284.out; have hnc30 := NB284_283.out; have hnb31 := NB283_287.out; have hnc31 := NB287_283.out; obtain ⟨_, _, _, _, _, _, _, _, _, _⟩ := cs5_ BK283.out
      go_wp2_with (first | ((with_reducible refine gd_ 35 ?_); refine gQ_ Tryz.func122 (l4_within.calls _ _ _ _ A28.out) fun nd => ?_))
      go_meet
      case rel => exact ⟨_, (true), Tc_, H', ⟨Wc_⟩, ⟨Tu_⟩, ⟨Tg_⟩, ⟨Tj_⟩, ⟨Tn_⟩, ⟨Tf_⟩⟩
     rw [if_neg c29] at H; have c29b0 := decide_eq_false c29; clear c29
     (first | rw [c29b0] | (simp only [ya_, za_]; rw [c29b0]) | skip)
     by_cases c33 : x7_1 < (rd y289 t288)
     ·rw [if_pos c33] at H
      have c33b0 := decide_eq_true c33; clear c33; replace H := bd_ H; obtain ⟨t294, A34, H⟩ := H; have H' := aM_ H; clear H; have hnb35 := NB283_284.out; have hnc35 := NB284_283.out; have hnb36 := NB283_287.out; have hnc36 := NB287_283.out; obtain ⟨_, _, _, _, _, _, _, _, _, _⟩ := cs5_ BK283.out
      go_wp2_with (first | ((with_reducible refine gd_ 35 ?_); refine gQ_ Tryz.func122 (l4_within.calls _ _ _ _ A28.out) fun nd => ?_) | (go_at_call 122; (with_reducible refine (l4_within.calls _ _ _ _ A34.out).mono ?_); rintro e w' ⟨rfl, ⟨nd, rfl⟩⟩))
      go_meet
      case rel => exact ⟨_, ((t294 == 0)), Tc_, H', ⟨Wc_⟩, ⟨Tu_⟩, ⟨Tg_⟩, ⟨Tj_⟩, ⟨Tn_⟩, ⟨Tf_⟩⟩
     rw [if_neg c33] at H; have c33b0 := decide_eq_false c33; clear c33; have H' := aM_ H; clear H; have hnb38 := NB283_284.out; have hnc38 := NB284_283.out; have hnb39 := NB283_287.out; have hnc39 := NB287_283.out; obtain ⟨_, _, _, _, _, _, _, _, _, _⟩ := cs5_ BK283.out
     go_wp2_with (first | ((with_reducible refine gd_ 35 ?_); refine gQ_ Tryz.func122 (l4_within.calls _ _ _ _ A28.out) fun nd => ?_))
     go_meet
     case rel => exact ⟨_, (false), Tc_, H', ⟨Wc_⟩, ⟨Tu_⟩, ⟨Tg_⟩, ⟨Tj_⟩, ⟨Tn_⟩, ⟨Tf_⟩⟩
    clear HC27; obtain ⟨kq, x49_26, rfl, HA, HJ26, HO_288001, BK283, BK284, BK287, HB⟩ := hcut
    cases kq with
    | zero => exact absurd HA.out (by simp [l4_Raw_Make.j1])
    | succ kj26 =>
     have H := HA.out; clear HA; simp only [l4_Raw_Make.j1] at H
     by_cases c41 : x49_26 = true
     ·subst c41
      have H1 : (if x7_1 < (l0_3.length : Int) then (if 0 ≤ x7_1 then (l4_Raw_Make.j2 kj26 a1 (rd y289 t288) x7_1 (rd l0_3 x7_1) a0_0 a0_1 a0_2 l0_3 l0_4 t285 x288001_1 t288 t286) else (none)) else (l4_Raw_Make.j2 kj26 a1 (rd y289 t288) x7_1 x7_1 a0_0 a0_1 a0_2 l0_3 l0_4 t285 x288001_1 t288 t286)) = some (r1, r2, r3, r4, r5) := by rw [if_pos rfl] at H; exact H
      clear H; have H := H1; clear H1; have HC42 := aM_ H; clear H; have hnb43 := NB283_284.out; have hnc43 := NB284_283.out; have hnb44 := NB283_287.out; have hnc44 := NB287_283.out; obtain ⟨_, _, _, _, _, _, _, _, _, _⟩ := cs5_ BK283.out
      go_upto_if 57 with (fail)
      go_cut [8] (fun v8 wc => ∃ (kq : Nat) (x8_41 : Int), v8 = .int .i64 x8_41 ∧ Az (l4_Raw_Make.j2 kq a1 (rd y289 t288) x7_1 x8_41 a0_0 a0_1 a0_2 l0_3 l0_4 t285 x288001_1 t288 t286 = some (r1, r2, r3, r4, r5)) ∧ Az (kq ≤ kj26) ∧ Az (Kd.R (Kd.int .i64) 3 wc w.heap.size (fun _ => True) u288001 x288001_1) ∧ Az (wc.heap[gb283]? = some (.cells #[.int .i64 a0_0, .int .i64 a0_1, .int .i64 a0_2, (.slice A0_3 l0_3.length c0_3), (.slice A0_4 l0_4.length c0_4)] 120 (0, 0))) ∧ Az (wc.heap[gb284]? = some (.cells #[.int .i64 0, (.slice none 0 0), .int .i64 0, (.slice none 0 0), .int .i64 0] 56 (0, 0))) ∧ Az (wc.heap[gb287]? = some (.cells #[.int .i64 t285, u288001, .int .i64 t288, (.slice none 0 0), .int .i64 t286] 56 (0, 0))) ∧ Az (Below w.heap.size w wc))
      case first =>
       have H := HC42.out; clear HC42
       by_cases c46 : x7_1 < (l0_3.length : Int)
       ·rw [if_pos c46] at H
        have c46b0 := decide_eq_true c46; clear c46
        (first | rw [c46b0] | (simp only [ya_, za_]; rw [c46b0]) | skip)
        by_cases c47 : 0 ≤ x7_1
        ·rw [if_pos c47] at H
         have c47b0 := decide_eq_true c47; clear c47; have H' := aM_ H; clear H; have hnb48 := NB283_284.out; have hnc48 := NB284_283.out; have hnb49 := NB283_287.out; have hnc49 := NB287_283.out; obtain ⟨_, _, _, _, _, _, _, _, _, _⟩ := cs5_ BK283.out; have p295 : 0 ≤ (x7_1 : Int) := of_decide_eq_true Te_; have q295 : x7_1 < (l0_3.length : Int) := of_decide_eq_true Te_; obtain ⟨ad295, e295, hx295_0⟩ := Kd.at_int HR0_3.out x7_1 p295 q295
         cases e295
         replace hx295_0 := (HB.out.cell (World.block_lt_of_cell? w _ hx295_0)).trans hx295_0; replace p295 := eq_true p295; replace q295 := eq_true q295
         go_wp2
         go_meet
         case rel => exact ⟨_, (rd l0_3 x7_1), Tc_, H', ⟨by have := HK1.out; have := HJ26.out; first | omega | exact Nat.le_refl _⟩, ⟨Tu_⟩, ⟨Tg_⟩, ⟨Tj_⟩, ⟨Tn_⟩, ⟨Tf_⟩⟩
        rw [if_neg c47] at H; exact absurd H Tt_
       rw [if_neg c46] at H; have c46b0 := decide_eq_false c46; clear c46
       (first | rw [c46b0] | (simp only [ya_, za_]; rw [c46b0]) | skip)
       have H' := aM_ H; clear H
       go_wp2
       go_meet
       case rel => exact ⟨_, (x7_1), Tc_, H', ⟨by have := HK1.out; have := HJ26.out; first | omega | exact Nat.le_refl _⟩, ⟨Tu_⟩, ⟨Tg_⟩, ⟨Tj_⟩, ⟨Tn_⟩, ⟨Tf_⟩⟩
      clear HC42; obtain ⟨kq, x8_41, rfl, HA, HJ41, HO_288001, BK283, BK284, BK287, HB⟩ := hcut
      cases kq with
      | zero => exact absurd HA.out (by simp [l4_Raw_Make.j2])
      | succ kj41 =>
       have H := HA.out; clear HA; simp only [l4_Raw_Make.j2] at H; replace H := bd_ H; obtain ⟨t296, A51, H⟩ := H; replace H := bd_ H; obtain ⟨t297, A52, H⟩ := H
       by_cases c53 : t297 = 0
       ·rw [if_pos c53] at H
        have c53b0 : (t297 == 0) = true := beq_iff_eq.mpr c53; have c53b1 : (t297 != 0) = false := bne_eq_false_iff_eq.mpr c53; clear c53; obtain ⟨y298, hy298⟩ : ∃ y_ : List Int, y_ = (([0, 0, 0, 1, 2, 3, 50, 51, 52, 53, 54] : List Int)) := ⟨_, rfl⟩; replace H : ((l4_within.f (wrap64 (Int.tdiv x8_41 40)) 11).bind fun t301 => (if 0 ≤ t301 then (if t301 < (y298.length : Int) then (if x288001_1.length < 17592186044416 then (l4_Raw_Make.l0 kj41 a1 (rd y289 t288) (wrap64 (x7_1 + 1)) a0_0 a0_1 a0_2 l0_3 l0_4 t285 (x288001_1 ++ [wrap64 ((-1) - (rd y298 t301))]) t288 t286) else (none)) else (none)) else (none))) = some (r1, r2, r3, r4, r5) := by first | (rw [hy298]; with_reducible exact H) | (have H2_ := (Option.bind_some _ _).symm.trans H; rw [hy298]; with_reducible exact H2_) | (have H2_ := (Option.bind_some _ _).symm.trans H; with_reducible exact H2_) | with_reducible exact H | (rw [hy298]; exact H) | exact H
        have Ny298 := aM_ hy298; clear hy298; replace H := bd_ H; obtain ⟨t301, A54, H⟩ := H
        by_cases c55 : 0 ≤ t301
        ·rw [if_pos c55] at H
         have c55b0 := decide_eq_true c55; clear c55
         by_cases c56 : t301 < (y298.length : Int)
         ·rw [if_pos c56] at H
          have c56b0 := decide_eq_true c56; clear c56
          by_cases c57 : x288001_1.length < 17592186044416
          ·rw [if_pos c57] at H
           have LMc57 := aM_ c57; clear c57; obtain ⟨y303, hy303⟩ : ∃ y_ : List Int, y_ = (x288001_1 ++ [wrap64 ((-1) - (rd y298 t301))]) := ⟨_, rfl⟩; replace H : (l4_Raw_Make.l0 kj41 a1 (rd y289 t288) (wrap64 (x7_1 + 1)) a0_0 a0_1 a0_2 l0_3 l0_4 t285 y303 t288 t286) = some (r1, r2, r3, r4, r5) := by first | (rw [hy303]; with_reducible exact H) | (have H2_ := (Option.bind_some _ _).symm.trans H; rw [hy303]; with_reducible exact H2_) | (have H2_ := (Option.bind_some _ _).symm.trans H; with_reducible exact H2_) | with_reducible exact H | (rw [hy303]; exact H) | exact H
           have Ny303 := aM_ hy303; clear hy303; have H' := aM_ H; clear H
           go_wp2_with (first | ((with_reducible refine gd_ 65 ?_); refine gQ_ Tryz.func122 (l4_within.calls _ _ _ _ A51.out) fun nd => ?_; (try (rw [fg_ wc]; generalize hq_ : World.drewN wc _ = wc; have n0_ : Az (Kd.R (Kd.int .i64) 3 wc w.heap.size (fun _ => True) u288001 x288001_1) := ⟨Ui_⟩; have n1_ : Az (wc.heap[gb283]? = some (.cells #[.int .i64 a0_0, .int .i64 a0_1, .int .i64 a0_2, .slice A0_3 l0_3.length c0_3, .slice A0_4 l0_4.length c0_4] 120 (0, 0))) := ⟨Um_⟩; have n2_ : Az (wc.heap[gb284]? = some (.cells #[.int .i64 0, .slice none 0 0, .int .i64 0, .slice none 0 0, .int .i64 0] 56 (0, 0))) := ⟨Un_⟩; have n3_ : Az (wc.heap[gb287]? = some (.cells #[.int .i64 t285, u288001, .int .i64 t288, .slice none 0 0, .int .i64 t286] 56 (0, 0))) := ⟨Uo_⟩; have n4_ : Az (Below w.heap.size w wc) := ⟨Tw_⟩; clear HO_288001 BK283 BK284 BK287 HB hq_; have HO_288001 := n0_; have BK283 := n1_; have BK284 := n2_; have BK287 := n3_; have HB := n4_; clear n0_ n1_ n2_ n3_ n4_))) | ((with_reducible refine gd_ 68 ?_); refine gQ_ Tryz.func122 (l4_within.calls _ _ _ _ A52.out) fun nd => ?_; (try (rw [fg_ wc]; generalize hq_ : World.drewN wc _ = wc; have n0_ : Az (Kd.R (Kd.int .i64) 3 wc w.heap.size (fun _ => True) u288001 x288001_1) := ⟨Ui_⟩; have n1_ : Az (wc.heap[gb283]? = some (.cells #[.int .i64 a0_0, .int .i64 a0_1, .int .i64 a0_2, .slice A0_3 l0_3.length c0_3, .slice A0_4 l0_4.length c0_4] 120 (0, 0))) := ⟨Um_⟩; have n2_ : Az (wc.heap[gb284]? = some (.cells #[.int .i64 0, .slice none 0 0, .int .i64 0, .slice none 0 0, .int .i64 0] 56 (0, 0))) := ⟨Un_⟩; have n3_ : Az (wc.heap[gb287]? = some (.cells #[.int .i64 t285, u288001, .int .i64 t288, .slice none 0 0, .int .i64 t286] 56 (0, 0))) := ⟨Uo_⟩; have n4_ : Az (Below w.heap.size w wc) := ⟨Tw_⟩; clear HO_288001 BK283 BK284 BK287 HB hq_; have HO_288001 := n0_; have BK283 := n1_; have BK284 := n2_; have BK287 := n3_; have HB := n4_; clear n0_ n1_ n2_ n3_ n4_))) | ((with_reducible refine gd_ 70 ?_); refine Kd.R_lit (Kd.int .i64) _ 3 rfl (N := 70) rfl (xs := ([0, 0, 0, 1, 2, 3, 50, 51, 52, 53, 54] : List Int)) (inner := [.int .i64 0, .int .i64 0, .int .i64 0, .int .i64 1, .int .i64 2, .int .i64 3, .int .i64 50, .int .i64 51, .int .i64 52, .int .i64 53, .int .i64 54]) (ok := fun _ => True) (okp := fun _ => True) Tx_ ?hp (fun _ hk => hk) trivial (Below.refl _ _) (Nat.le_refl _) Tt_ ?_; (case hp => exact (Reps.one (show Kd.M (Kd.int .i64) _ _ _ 0 [.int .i64 0] from rfl) (Reps.one (show Kd.M (Kd.int .i64) _ _ _ 0 [.int .i64 0] from rfl) (Reps.one (show Kd.M (Kd.int .i64) _ _ _ 0 [.int .i64 0] from rfl) (Reps.one (show Kd.M (Kd.int .i64) _ _ _ 1 [.int .i64 1] from rfl) (Reps.one (show Kd.M (Kd.int .i64) _ _ _ 2 [.int .i64 2] from rfl) (Reps.one (show Kd.M (Kd.int .i64) _ _ _ 3 [.int .i64 3] from rfl) (Reps.one (show Kd.M (Kd.int .i64) _ _ _ 50 [.int .i64 50] from rfl) (Reps.one (show Kd.M (Kd.int .i64) _ _ _ 51 [.int .i64 51] from rfl) (Reps.one (show Kd.M (Kd.int .i64) _ _ _ 52 [.int .i64 52] from rfl) (Reps.one (show Kd.M (Kd.int .i64) _ _ _ 53 [.int .i64 53] from rfl) (Reps.one (show Kd.M (Kd.int .i64) _ _ _ 54 [.int .i64 54] from rfl) (Reps.none _ _))))))))))))); intro v299 w58 ho59 hb hg_ hnew_; clear hg_ hnew_; (first | rw [← Ny298.out] at ho59 | (simp only [Int.reduceToNat] at ho59; rw [← Ny298.out] at ho59)); have n0_ := aM_ (Kd.R_elder' Tu_ (Kd.R_base ho59) hb); have n1_ := aM_ (Kd.R_lower (Kd.R_new' ho59 (Kd.R_lt Tu_)) (na_ Tf_)); have n2_ := aM_ (la_ (g := gb283) (o := .cells #[.int .i64 a0_0, .int .i64 a0_1, .int .i64 a0_2, .slice A0_3 l0_3.length c0_3, .slice A0_4 l0_4.length c0_4] 120 (0, 0)) Tg_ hb); have n3_ := aM_ (la_ (g := gb284) (o := .cells #[.int .i64 0, .slice none 0 0, .int .i64 0, .slice none 0 0, .int .i64 0] 56 (0, 0)) Tj_ hb); have n4_ := aM_ (la_ (g := gb287) (o := .cells #[.int .i64 t285, u288001, .int .i64 t288, .slice none 0 0, .int .i64 t286] 56 (0, 0)) Tn_ hb); have n5_ := aM_ (da_ Tf_ hb); clear HO_288001; clear BK283; clear BK284; clear BK287; clear HB; have HO_288001 := n0_; have HO300 := n1_; have BK283 := n2_; have BK284 := n3_; have BK287 := n4_; have HB := n5_; clear n0_ n1_ n2_ n3_ n4_ n5_; clear hb ho59) | ((with_reducible refine gd_ 73 ?_); refine gQ_ Tryz.func122 (l4_within.calls _ _ _ _ A54.out) fun nd => ?_; (try (rw [fg_ w58]; generalize hq_ : World.drewN w58 _ = w58; have n0_ : Az (Kd.R (Kd.int .i64) 3 w58 w.heap.size (fun k_ => (True ∧ some k_ ≠ (u288001 : Value).ownBlock)) v299 y298) := ⟨by rw [← hq_]; exact (by (with_reducible repeat (first | apply Kd.R_alloc | apply Kd.R_drewN | apply Kd.R_drew)); exact HO300.out)⟩; have n1_ : Az (Kd.R (Kd.int .i64) 3 w58 w.heap.size (fun k_ => (True ∧ some k_ ≠ (v299 : Value).ownBlock)) u288001 x288001_1) := ⟨Ui_⟩; have n2_ : Az (w58.heap[gb283]? = some (.cells #[.int .i64 a0_0, .int .i64 a0_1, .int .i64 a0_2, .slice A0_3 l0_3.length c0_3, .slice A0_4 l0_4.length c0_4] 120 (0, 0))) := ⟨Um_⟩; have n3_ : Az (w58.heap[gb284]? = some (.cells #[.int .i64 0, .slice none 0 0, .int .i64 0, .slice none 0 0, .int .i64 0] 56 (0, 0))) := ⟨Un_⟩; have n4_ : Az (w58.heap[gb287]? = some (.cells #[.int .i64 t285, u288001, .int .i64 t288, .slice none 0 0, .int .i64 t286] 56 (0, 0))) := ⟨Uo_⟩; have n5_ : Az (Below w.heap.size w w58) := ⟨Tw_⟩; clear HO300 HO_288001 BK283 BK284 BK287 HB hq_; have HO300 := n0_; have HO_288001 := n1_; have BK283 := n2_; have BK284 := n3_; have BK287 := n4_; have HB := n5_; clear n0_ n1_ n2_ n3_ n4_ n5_)); obtain ⟨Ao60, co60, eo60⟩ := Kd.R_slice HO300.out; subst eo60; have p302 : 0 ≤ (t301 : Int) := of_decide_eq_true Te_; have q302 : t301 < (y298.length : Int) := of_decide_eq_true Te_; obtain ⟨ad302, e302, hx302_0⟩ := Kd.at_int (Kd.R_reads' HO300.out).2.2 t301 p302 q302; cases e302; replace p302 := eq_true p302; replace q302 := eq_true q302; have hnb61 := NB287_283.out; have hnc61 := NB283_287.out; have hnb62 := NB287_284.out; have hnc62 := NB284_287.out; have hcz63_0 : w58.cell? ⟨gb287, 0, none⟩ = some (.int .i64 t285) := (ba_ BK287.out 0).trans rfl; have hcz63_1 : w58.cell? ⟨gb287, 1, none⟩ = some (u288001) := (ba_ BK287.out 1).trans rfl; have hcz63_2 : w58.cell? ⟨gb287, 2, none⟩ = some (.int .i64 t288) := (ba_ BK287.out 2).trans rfl; have hcz63_3 : w58.cell? ⟨gb287, 3, none⟩ = some (.slice none 0 0) := (ba_ BK287.out 3).trans rfl; have hcz63_4 : w58.cell? ⟨gb287, 4, none⟩ = some (.int .i64 t286) := (ba_ BK287.out 4).trans rfl; have hfz63_0 := ha_ BK287.out 0; have hfz63_1 := ha_ BK287.out 1; have hfz63_2 := ha_ BK287.out 2; have hfz63_3 := ha_ BK287.out 3; have hfz63_4 := ha_ BK287.out 4) | ((with_reducible refine se_ (b := .append) (xs := #[.tmp 78, .tmp 80]) rfl ?_); at_builtin; refine Kd.R_append (Kd.int .i64) (w0 := w) w.heap.size rfl (.tmp 78) (.tmp 80) 35 3 (.int .i64 0) 8 rfl Tryz.underlying35 qg_ rfl Tm_ Td_ u288001 x288001_1 (wrap64 ((-1) - (rd y298 t301))) [.int .i64 (wrap64 ((-1) - (rd y298 t301)))] (fun k_ => some k_ ≠ (.slice (some ad302) y298.length co60 : Value).ownBlock) (fun _ => False) rfl rfl rfl (fun _ hk => hk.elim) ?aF (by (with_reducible repeat (first | apply Kd.R_alloc | apply Kd.R_drewN | apply Kd.R_drew)); (first | exact Kd.R_mono HO_288001.out (fun _ hk => hk.2) | exact HO_288001.out)) Tf_ (by exact (na_ Tf_)) (by have := LMc57.out; omega) ?_; (case aF => exact (fun k_ hk => Kd.fresh' (Kd.R_lt (by (with_reducible repeat (first | apply Kd.R_alloc | apply Kd.R_drewN | apply Kd.R_drew)); exact HO300.out)) k_ hk)); intro v304 w64 ho hb hg hat; rw [← Ny303.out] at ho; have n0_ := aM_ (fb_ (g := gb283) (o := .cells #[.int .i64 a0_0, .int .i64 a0_1, .int .i64 a0_2, .slice A0_3 l0_3.length c0_3, .slice A0_4 l0_4.length c0_4] 120 (0, 0)) Tg_ hg (Kd.R_ne HO_288001.out BK283.out Tm_)); have n1_ := aM_ (fb_ (g := gb284) (o := .cells #[.int .i64 0, .slice none 0 0, .int .i64 0, .slice none 0 0, .int .i64 0] 56 (0, 0)) Tj_ hg (Kd.R_ne HO_288001.out BK284.out Tm_)); have n2_ := aM_ (fb_ (g := gb287) (o := .cells #[.int .i64 t285, u288001, .int .i64 t288, .slice none 0 0, .int .i64 t286] 56 (0, 0)) Tn_ hg (Kd.R_ne HO_288001.out BK287.out Tm_)); have n3_ := aM_ (Kd.R_after (ok := (fun _ => True)) (by (with_reducible repeat (first | apply Kd.R_alloc | apply Kd.R_drewN | apply Kd.R_drew)); exact HO300.out) hg hat); have n4_ := aM_ (hb); have n5_ := aM_ (ho); clear BK283; clear BK284; clear BK287; clear HO300; clear HB; clear HO_288001; have BK283 := n0_; have BK284 := n1_; have BK287 := n2_; have HO300 := n3_; have HB := n4_; have HO305 := n5_; clear n0_ n1_ n2_ n3_ n4_ n5_; clear ho hb hg hat; obtain ⟨Ao65, co65, eo65⟩ := Kd.R_slice HO305.out; subst eo65; have hcz66_0 : w64.cell? ⟨gb287, 0, none⟩ = some (.int .i64 t285) := (ba_ BK287.out 0).trans rfl; have hcz66_1 : w64.cell? ⟨gb287, 1, none⟩ = some (u288001) := (ba_ BK287.out 1).trans rfl; have hcz66_2 : w64.cell? ⟨gb287, 2, none⟩ = some (.int .i64 t288) := (ba_ BK287.out 2).trans rfl; have hcz66_3 : w64.cell? ⟨gb287, 3, none⟩ = some (.slice none 0 0) := (ba_ BK287.out 3).trans rfl; have hcz66_4 : w64.cell? ⟨gb287, 4, none⟩ = some (.int .i64 t286) := (ba_ BK287.out 4).trans rfl; have hfz66_0 := ha_ BK287.out 0; have hfz66_1 := ha_ BK287.out 1; have hfz66_2 := ha_ BK287.out 2; have hfz66_3 := ha_ BK287.out 3; have hfz66_4 := ha_ BK287.out 4))
           go_roundg kj41
           case measure => have := HK1.out; have := HJ26.out; have := HJ41.out; omega
           case rel => exact ⟨(wrap64 (x7_1 + 1)), (y303), (.slice Ao65 y303.length co65), Tc_, H', ⟨by have := HK1.out; have := HJ26.out; have := HJ41.out; omega⟩, ⟨by (with_reducible repeat (first | apply Kd.R_alloc | apply Kd.R_drewN | apply Kd.R_drew)); exact Kd.R_mono (Kd.R_far (p := ⟨gb287, 1, none⟩) (Kd.R_types HO305.out BK287.out Tm_) (fun _ hk => hk.2) (.slice Ao65 y303.length co65)) (fun _ hk => trivial)⟩, ⟨Ty_⟩, ⟨Tz_⟩, ⟨by (with_reducible repeat (first | refine ja_ ?_ _ | refine ka_ ?_ | refine ia_ ?_ _)); refine jc_ (cs := #[.int .i64 t285, u288001, .int .i64 t288, .slice none 0 0, .int .i64 t286]) ?_ 1 _ rfl; (with_reducible repeat (first | refine ja_ ?_ _ | refine ka_ ?_ | refine ia_ ?_ _)); exact BK287.out⟩, ⟨Tf_⟩⟩
          rw [if_neg c57] at H; exact absurd H Tt_
         rw [if_neg c56] at H; exact absurd H Tt_
        rw [if_neg c55] at H; exact absurd H Tt_
       rw [if_neg c53] at H; have c53b0 : (t297 == 0) = false := beq_eq_false_iff_ne.mpr c53; have c53b1 : (t297 != 0) = true := bne_iff_ne.mpr c53
       by_cases c67 : x288001_1.length < 17592186044416
       ·rw [if_pos c67] at H
        have LMc67 := aM_ c67; clear c67; obtain ⟨y306, hy306⟩ : ∃ y_ : List Int, y_ = (x288001_1 ++ [t296]) := ⟨_, rfl⟩; replace H : (l4_Raw_Make.l0 kj41 a1 (rd y289 t288) (wrap64 (x7_1 + 1)) a0_0 a0_1 a0_2 l0_3 l0_4 t285 y306 t288 t286) = some (r1, r2, r3, r4, r5) := by first | (rw [hy306]; with_reducible exact H) | (have H2_ := (Option.bind_some _ _).symm.trans H; rw [hy306]; with_reducible exact H2_) | (have H2_ := (Option.bind_some _ _).symm.trans H; with_reducible exact H2_) | with_reducible exact H | (rw [hy306]; exact H) | exact H
        have Ny306 := aM_ hy306; clear hy306; have H' := aM_ H; clear H
        go_wp2_with (first | ((with_reducible refine gd_ 65 ?_); refine gQ_ Tryz.func122 (l4_within.calls _ _ _ _ A51.out) fun nd => ?_; (try (rw [fg_ wc]; generalize hq_ : World.drewN wc _ = wc; have n0_ : Az (Kd.R (Kd.int .i64) 3 wc w.heap.size (fun _ => True) u288001 x288001_1) := ⟨Ui_⟩; have n1_ : Az (wc.heap[gb283]? = some (.cells #[.int .i64 a0_0, .int .i64 a0_1, .int .i64 a0_2, .slice A0_3 l0_3.length c0_3, .slice A0_4 l0_4.length c0_4] 120 (0, 0))) := ⟨Um_⟩; have n2_ : Az (wc.heap[gb284]? = some (.cells #[.int .i64 0, .slice none 0 0, .int .i64 0, .slice none 0 0, .int .i64 0] 56 (0, 0))) := ⟨Un_⟩; have n3_ : Az (wc.heap[gb287]? = some (.cells #[.int .i64 t285, u288001, .int .i64 t288, .slice none 0 0, .int .i64 t286] 56 (0, 0))) := ⟨Uo_⟩; have n4_ : Az (Below w.heap.size w wc) := ⟨Tw_⟩; clear HO_288001 BK283 BK284 BK287 HB hq_; have HO_288001 := n0_; have BK283 := n1_; have BK284 := n2_; have BK287 := n3_; have HB := n4_; clear n0_ n1_ n2_ n3_ n4_))) | ((with_reducible refine gd_ 68 ?_); refine gQ_ Tryz.func122 (l4_within.calls _ _ _ _ A52.out) fun nd => ?_; (try (rw [fg_ wc]; generalize hq_ : World.drewN wc _ = wc; have n0_ : Az (Kd.R (Kd.int .i64) 3 wc w.heap.size (fun _ => True) u288001 x288001_1) := ⟨Ui_⟩; have n1_ : Az (wc.heap[gb283]? = some (.cells #[.int .i64 a0_0, .int .i64 a0_1, .int .i64 a0_2, .slice A0_3 l0_3.length c0_3, .slice A0_4 l0_4.length c0_4] 120 (0, 0))) := ⟨Um_⟩; have n2_ : Az (wc.heap[gb284]? = some (.cells #[.int .i64 0, .slice none 0 0, .int .i64 0, .slice none 0 0, .int .i64 0] 56 (0, 0))) := ⟨Un_⟩; have n3_ : Az (wc.heap[gb287]? = some (.cells #[.int .i64 t285, u288001, .int .i64 t288, .slice none 0 0, .int .i64 t286] 56 (0, 0))) := ⟨Uo_⟩; have n4_ : Az (Below w.heap.size w wc) := ⟨Tw_⟩; clear HO_288001 BK283 BK284 BK287 HB hq_; have HO_288001 := n0_; have BK283 := n1_; have BK284 := n2_; have BK287 := n3_; have HB := n4_; clear n0_ n1_ n2_ n3_ n4_)); have hnb68 := NB287_283.out; have hnc68 := NB283_287.out; have hnb69 := NB287_284.out; have hnc69 := NB284_287.out; have hcz70_0 : wc.cell? ⟨gb287, 0, none⟩ = some (.int .i64 t285) := (ba_ BK287.out 0).trans rfl; have hcz70_1 : wc.cell? ⟨gb287, 1, none⟩ = some (u288001) := (ba_ BK287.out 1).trans rfl; have hcz70_2 : wc.cell? ⟨gb287, 2, none⟩ = some (.int .i64 t288) := (ba_ BK287.out 2).trans rfl; have hcz70_3 : wc.cell? ⟨gb287, 3, none⟩ = some (.slice none 0 0) := (ba_ BK287.out 3).trans rfl; have hcz70_4 : wc.cell? ⟨gb287, 4, none⟩ = some (.int .i64 t286) := (ba_ BK287.out 4).trans rfl; have hfz70_0 := ha_ BK287.out 0; have hfz70_1 := ha_ BK287.out 1; have hfz70_2 := ha_ BK287.out 2; have hfz70_3 := ha_ BK287.out 3; have hfz70_4 := ha_ BK287.out 4) | ((with_reducible refine se_ (b := .append) (xs := #[.tmp 78, .tmp 80]) rfl ?_); at_builtin; refine Kd.R_append (Kd.int .i64) (w0 := w) w.heap.size rfl (.tmp 78) (.tmp 80) 35 3 (.int .i64 0) 8 rfl Tryz.underlying35 qg_ rfl Tm_ Td_ u288001 x288001_1 t296 [.int .i64 t296] (fun _ => True) (fun _ => False) rfl rfl rfl (fun _ hk => hk.elim) ?aF Tu_ Tf_ (by exact (na_ Tf_)) (by have := LMc67.out; omega) ?_; (case aF => exact (fun _ _ => trivial)); intro v307 w71 ho hb hg hat; rw [← Ny306.out] at ho; have n0_ := aM_ (fb_ (g := gb283) (o := .cells #[.int .i64 a0_0, .int .i64 a0_1, .int .i64 a0_2, .slice A0_3 l0_3.length c0_3, .slice A0_4 l0_4.length c0_4] 120 (0, 0)) Tg_ hg (Kd.R_ne HO_288001.out BK283.out Tm_)); have n1_ := aM_ (fb_ (g := gb284) (o := .cells #[.int .i64 0, .slice none 0 0, .int .i64 0, .slice none 0 0, .int .i64 0] 56 (0, 0)) Tj_ hg (Kd.R_ne HO_288001.out BK284.out Tm_)); have n2_ := aM_ (fb_ (g := gb287) (o := .cells #[.int .i64 t285, u288001, .int .i64 t288, .slice none 0 0, .int .i64 t286] 56 (0, 0)) Tn_ hg (Kd.R_ne HO_288001.out BK287.out Tm_)); have n3_ := aM_ (hb); have n4_ := aM_ (ho); clear BK283; clear BK284; clear BK287; clear HB; clear HO_288001; have BK283 := n0_; have BK284 := n1_; have BK287 := n2_; have HB := n3_; have HO308 := n4_; clear n0_ n1_ n2_ n3_ n4_; clear ho hb hg hat; obtain ⟨Ao72, co72, eo72⟩ := Kd.R_slice HO308.out; subst eo72; have hcz73_0 : w71.cell? ⟨gb287, 0, none⟩ = some (.int .i64 t285) := (ba_ BK287.out 0).trans rfl; have hcz73_1 : w71.cell? ⟨gb287, 1, none⟩ = some (u288001) := (ba_ BK287.out 1).trans rfl; have hcz73_2 : w71.cell? ⟨gb287, 2, none⟩ = some (.int .i64 t288) := (ba_ BK287.out 2).trans rfl; have hcz73_3 : w71.cell? ⟨gb287, 3, none⟩ = some (.slice none 0 0) := (ba_ BK287.out 3).trans rfl; have hcz73_4 : w71.cell? ⟨gb287, 4, none⟩ = some (.int .i64 t286) := (ba_ BK287.out 4).trans rfl; have hfz73_0 := ha_ BK287.out 0; have hfz73_1 := ha_ BK287.out 1; have hfz73_2 := ha_ BK287.out 2; have hfz73_3 := ha_ BK287.out 3; have hfz73_4 := ha_ BK287.out 4))
        go_roundg kj41
        case measure => have := HK1.out; have := HJ26.out; have := HJ41.out; omega
        case rel => exact ⟨(wrap64 (x7_1 + 1)), (y306), (.slice Ao72 y306.length co72), Tc_, H', ⟨by have := HK1.out; have := HJ26.out; have := HJ41.out; omega⟩, ⟨by (with_reducible repeat (first | apply Kd.R_alloc | apply Kd.R_drewN | apply Kd.R_drew)); exact Kd.R_mono (Kd.R_far (p := ⟨gb287, 1, none⟩) (Kd.R_types HO308.out BK287.out Tm_) (fun _ hk => hk.2) (.slice Ao72 y306.length co72)) (fun _ hk => trivial)⟩, ⟨Ty_⟩, ⟨Tz_⟩, ⟨by (with_reducible repeat (first | refine ja_ ?_ _ | refine ka_ ?_ | refine ia_ ?_ _)); refine jc_ (cs := #[.int .i64 t285, u288001, .int .i64 t288, .slice none 0 0, .int .i64 t286]) ?_ 1 _ rfl; (with_reducible repeat (first | refine ja_ ?_ _ | refine ka_ ?_ | refine ia_ ?_ _)); exact BK287.out⟩, ⟨Tf_⟩⟩
       rw [if_neg c67] at H; exact absurd H Tt_
     replace c41 := Bool.eq_false_iff.mpr c41; subst c41; have H1 : (l4_Raw_Make.l1 kj26 (rd y289 t288) 0 a0_0 a0_1 a0_2 l0_3 l0_4 t285 x288001_1 t288 ([] : List Int) t286) = some (r1, r2, r3, r4, r5) := by rw [if_neg (show ¬ (false = true) by decide)] at H; exact H
     clear H; have H := H1; clear H1; have H' := aM_ H; clear H
     go_wp2
     go_loopg [10] kj26 (fun kq v10 w' => ∃ (x10_3 : Int) (x288003_3 : List Int) (u288003 : Value), v10 = .int .i64 x10_3 ∧ Az (l4_Raw_Make.l1 kq (rd y289 t288) x10_3 a0_0 a0_1 a0_2 l0_3 l0_4 t285 x288001_1 t288 x288003_3 t286 = some (r1, r2, r3, r4, r5)) ∧ Az (kq ≤ kj26) ∧ Az (Kd.R (Kd.int .i64) 3 w' w.heap.size (fun k_ => some k_ ≠ (u288003 : Value).ownBlock) u288001 x288001_1) ∧ Az (Kd.R (Kd.int .i64) 3 w' w.heap.size (fun k_ => some k_ ≠ (u288001 : Value).ownBlock) u288003 x288003_3) ∧ Az (w'.heap[gb283]? = some (.cells #[.int .i64 a0_0, .int .i64 a0_1, .int .i64 a0_2, (.slice A0_3 l0_3.length c0_3), (.slice A0_4 l0_4.length c0_4)] 120 (0, 0))) ∧ Az (w'.heap[gb284]? = some (.cells #[.int .i64 0, (.slice none 0 0), .int .i64 0, (.slice none 0 0), .int .i64 0] 56 (0, 0))) ∧ Az (w'.heap[gb287]? = some (.cells #[.int .i64 t285, u288001, .int .i64 t288, u288003, .int .i64 t286] 56 (0, 0))) ∧ Az (Below w.heap.size w w'))
     case atStart => exact ⟨(0), (([] : List Int)), (.slice none 0 0), Tc_, H', ⟨Nat.le_refl _⟩, ⟨by (with_reducible repeat (first | apply Kd.R_alloc | apply Kd.R_drewN | apply Kd.R_drew)); exact Kd.R_mono HO_288001.out (fun _ hk => (by simp [Value.ownBlock]))⟩, ⟨Ut_⟩, ⟨Tg_⟩, ⟨Tj_⟩, ⟨Tn_⟩, ⟨Tf_⟩⟩
     clear H'; obtain ⟨x10_3, x288003_3, u288003, rfl, HA, HK3, HO_288001, HO_288003, BK283, BK284, BK287, HB⟩ := hrel
     cases gk with
     | zero => exact absurd HA.out (by simp [l4_Raw_Make.l1])
     | succ k3 =>
      have H := HA.out; clear HA; simp only [l4_Raw_Make.l1] at H
      by_cases c74 : x10_3 < (rd y289 t288)
      ·rw [if_pos c74] at H
       have c74b0 := decide_eq_true c74; clear c74
       by_cases c75 : x10_3 < (l0_4.length : Int)
       ·rw [if_pos c75] at H
        have c75b0 := decide_eq_true c75; clear c75
        by_cases c76 : 0 ≤ x10_3
        ·rw [if_pos c76] at H
         have c76b0 := decide_eq_true c76; clear c76; replace H := bd_ H; obtain ⟨t310, A77, H⟩ := H
         by_cases c78 : x288003_3.length < 17592186044416
         ·rw [if_pos c78] at H
          have LMc78 := aM_ c78; clear c78; obtain ⟨y311, hy311⟩ : ∃ y_ : List Int, y_ = (x288003_3 ++ [t310]) := ⟨_, rfl⟩; replace H : (l4_Raw_Make.l1 k3 (rd y289 t288) (wrap64 (x10_3 + 1)) a0_0 a0_1 a0_2 l0_3 l0_4 t285 x288001_1 t288 y311 t286) = some (r1, r2, r3, r4, r5) := by first | (rw [hy311]; with_reducible exact H) | (have H2_ := (Option.bind_some _ _).symm.trans H; rw [hy311]; with_reducible exact H2_) | (have H2_ := (Option.bind_some _ _).symm.trans H; with_reducible exact H2_) | with_reducible exact H | (rw [hy311]; exact H) | exact H
          have Ny311 := aM_ hy311; clear hy311; have H' := aM_ H; clear H; have hnb79 := NB283_284.out; have hnc79 := NB284_283.out; have hnb80 := NB283_287.out; have hnc80 := NB287_283.out; obtain ⟨_, _, _, _, _, _, _, _, _, _⟩ := cs5_ BK283.out; have p309 : 0 ≤ (x10_3 : Int) := of_decide_eq_true Te_; have q309 : x10_3 < (l0_4.length : Int) := of_decide_eq_true Te_; obtain ⟨ad309, e309, hx309_0⟩ := Kd.at_int HR0_4.out x10_3 p309 q309
          cases e309
          replace hx309_0 := (HB.out.cell (World.block_lt_of_cell? w _ hx309_0)).trans hx309_0; replace p309 := eq_true p309; replace q309 := eq_true q309
          try go_wp2
          have n0_ := aM_ (Kd.R_drew HO_288001.out); have n1_ := aM_ (Kd.R_drew HO_288003.out); have n2_ := aM_ (ka_ BK283.out); have n3_ := aM_ (ka_ BK284.out); have n4_ := aM_ (ka_ BK287.out); have n5_ := aM_ (ga_ HB.out); clear HO_288001; clear HO_288003; clear BK283; clear BK284; clear BK287; clear HB; have HO_288001 := n0_; have HO_288003 := n1_; have BK283 := n2_; have BK284 := n3_; have BK287 := n4_; have HB := n5_; clear n0_ n1_ n2_ n3_ n4_ n5_; obtain ⟨Ao83, co83, eo83⟩ := Kd.R_slice HO_288001.out
          (first | subst eo83 | (injection eo83 with f1_ f2_ f3_; have f4_ := f1_.symm; have f5_ := f3_.symm; clear f1_ f2_ f3_; subst f4_; subst f5_))
          refine fd_ (n := 13) (S := fun w' => w'.cell? ⟨gb287, 0, none⟩ = some (.int .i64 t285) ∧ w'.cell? ⟨gb287, 1, none⟩ = some (.slice Ao83 x288001_1.length co83) ∧ w'.cell? ⟨gb287, 2, none⟩ = some (.int .i64 t288) ∧ w'.cell? ⟨gb287, 3, none⟩ = some (u288003) ∧ w'.cell? ⟨gb287, 4, none⟩ = some (.int .i64 t286)) (ds := [12]) (f_ 13 0) Ti_ rfl rfl (cf5_ BK287.out) (fun hHeld => ?_); refine wg_ l4_Raw_Make.tab20 l4_Raw_Make.bits20 (fun HT_ HW_ => ?_); generalize wr.drew = w82 at HO_288001 HO_288003 BK283 BK284 BK287 HB hHeld ⊢; refine pV_ 0 ?_; refine pV_ 1 ?_; refine pV_ 3 ?_; refine pV_ 4 ?_; refine tV5_ 2 ?_; refine tV5_ 5 ?_; refine pV_ 6 ?_; refine oN_ 7 fun K hK => ?_
          refine gO_ Tryz.func122 #[.int .i64 (rd l0_4 x10_3), .int .i64 (x288001_1.length : Int)] ?_
          with_reducible refine (l4_within.calls _ _ _ _ A77.out).mono ?_
          rintro e w' ⟨rfl, ⟨nd, rfl⟩⟩; refine ⟨_, rfl, ?_⟩; refine hK.out _ _ (cf5_ BK287.out) (fun hHeld => ?_); clear hK K; refine nO_ ?_; refine oN_ 8 fun K hK => ?_
          refine cd_ (w1 := ?_) (v := ?_) Vh_ rfl ?_ ?_; rotate_left 2
          ·go_simp
           constructor
           ·rfl
           rfl
          refine hK.out _ _ ⟨(ba_ (ia_ BK287.out _) 0).trans rfl, (ba_ (ia_ BK287.out _) 1).trans rfl, (ba_ (ia_ BK287.out _) 2).trans rfl, (ba_ (ia_ BK287.out _) 3).trans rfl, (ba_ (ia_ BK287.out _) 4).trans rfl⟩ (fun hHeld => ?_); clear hK K; refine nO_ ?_; refine oN_ 9 fun K hK => ?_
          refine Kd.R_append_step (Kd.int .i64) (w0 := w) w.heap.size Vh_ (.tmp 101) (.tmp 107) 35 3 (.int .i64 0) 8 rfl Tryz.underlying35 qg_ rfl Tm_ Td_ u288003 x288003_3 t310 [.int .i64 t310] (fun k_ => some k_ ≠ (.slice Ao83 x288001_1.length co83 : Value).ownBlock) (fun _ => False) rfl rfl ?aP (fun _ hk => hk.elim) ?aF ?aO ?aB ?aS ?aL ?_
          (case aP => exact rfl)
          (case aB => exact Tf_)
          (case aF => exact (fun k_ hk => Kd.fresh' (Kd.R_lt Tu_) k_ hk))
          (case aO => exact (by (with_reducible repeat (first | apply Kd.R_alloc | apply Kd.R_drewN | apply Kd.R_drew)); exact HO_288003.out))
          (case aS => exact (na_ Tf_))
          (case aL => have := LMc78.out; omega)
          intro v312 w84 ho hb hg hat; rw [← Ny311.out] at ho; have n0_ := aM_ (Kd.R_after (ok := (fun _ => True)) (by (with_reducible repeat (first | apply Kd.R_alloc | apply Kd.R_drewN | apply Kd.R_drew)); exact Kd.R_mono HO_288001.out (fun _ hk => ⟨trivial, hk⟩)) hg hat); have n1_ := aM_ (fb_ (g := gb283) (o := .cells #[.int .i64 a0_0, .int .i64 a0_1, .int .i64 a0_2, .slice A0_3 l0_3.length c0_3, .slice (some ad309) l0_4.length c0_4] 120 (0, 0)) Tg_ hg (Kd.R_ne HO_288003.out BK283.out Tm_)); have n2_ := aM_ (fb_ (g := gb284) (o := .cells #[.int .i64 0, .slice none 0 0, .int .i64 0, .slice none 0 0, .int .i64 0] 56 (0, 0)) Tj_ hg (Kd.R_ne HO_288003.out BK284.out Tm_)); have n3_ := aM_ (fb_ (g := gb287) (o := .cells #[.int .i64 t285, .slice Ao83 x288001_1.length co83, .int .i64 t288, u288003, .int .i64 t286] 56 (0, 0)) Tn_ hg (Kd.R_ne HO_288003.out BK287.out Tm_)); have n4_ := aM_ (hb); have n5_ := aM_ (ho); clear HO_288001; clear BK283; clear BK284; clear BK287; clear HB; clear HO_288003; have HO_288001 := n0_; have BK283 := n1_; have BK284 := n2_; have BK287 := n3_; have HB := n4_; have HO313 := n5_; clear n0_ n1_ n2_ n3_ n4_ n5_; clear ho hb hg hat; obtain ⟨Ao85, co85, eo85⟩ := Kd.R_slice HO313.out
          (first | subst eo85 | (injection eo85 with f1_ f2_ f3_; have f4_ := f1_.symm; have f5_ := f3_.symm; clear f1_ f2_ f3_; subst f4_; subst f5_))
          refine hK.out _ _ (cf5_ BK287.out) (fun hHeld => ?_); clear hK K; refine nO_ ?_; refine pV_ 10 ?_; refine pV_ 11 ?_; refine lN_ 12 fun K hK => ?_
          have hs86 : w84.cell? ⟨gb287, 3, none⟩ = some (u288003) := (ba_ BK287.out 3).trans rfl; have hfs86 := ha_ BK287.out 3; have hns86_0 := NB283_287.out; have hns86_1 := NB284_287.out; have hms86_0 := NB287_283.out; have hms86_1 := NB287_284.out; refine uf_ (w1 := ?_) Vh_ rfl ?_ ?_; rotate_left; (focus (go_simp; rfl)); refine hK.out _ _ ?_; clear hK K; refine wd_ (yj_ HT_.out Ti_) ?_
          try go_wp2
          go_roundg k3
          case measure => have := HK1.out; have := HJ26.out; have := HK3.out; omega
          case rel => exact ⟨(wrap64 (x10_3 + 1)), (y311), (.slice Ao85 y311.length co85), Tc_, H', ⟨by have := HK1.out; have := HJ26.out; have := HK3.out; omega⟩, ⟨by (with_reducible repeat (first | apply Kd.R_alloc | apply Kd.R_drewN | apply Kd.R_drew)); exact Kd.R_mono (Kd.R_far (p := ⟨gb287, 3, none⟩) (Kd.R_types HO_288001.out BK287.out Tm_) (fun _ hk => hk.2) (.slice Ao85 y311.length co85)) (fun _ hk => hk.1.2)⟩, ⟨by (with_reducible repeat (first | apply Kd.R_alloc | apply Kd.R_drewN | apply Kd.R_drew)); exact Kd.R_mono (Kd.R_far (p := ⟨gb287, 3, none⟩) (Kd.R_types HO313.out BK287.out Tm_) (fun _ hk => hk.2) (.slice Ao85 y311.length co85)) (fun _ hk => hk.1)⟩, ⟨Ty_⟩, ⟨Tz_⟩, ⟨by (with_reducible repeat (first | refine ja_ ?_ _ | refine ka_ ?_ | refine ia_ ?_ _)); refine jc_ (cs := #[.int .i64 t285, .slice Ao83 x288001_1.length co83, .int .i64 t288, u288003, .int .i64 t286]) ?_ 3 _ rfl; (with_reducible repeat (first | refine ja_ ?_ _ | refine ka_ ?_ | refine ia_ ?_ _)); exact BK287.out⟩, ⟨Tf_⟩⟩
         rw [if_neg c78] at H; exact absurd H Tt_
        rw [if_neg c76] at H; exact absurd H Tt_
       rw [if_neg c75] at H; have c75b0 := decide_eq_false c75; clear c75; replace H := bd_ H; obtain ⟨t314, A87, H⟩ := H
       by_cases c88 : x288003_3.length < 17592186044416
       ·rw [if_pos c88] at H
        have LMc88 := aM_ c88; clear c88; obtain ⟨y315, hy315⟩ : ∃ y_ : List Int, y_ = (x288003_3 ++ [t314]) := ⟨_, rfl⟩; replace H : (l4_Raw_Make.l1 k3 (rd y289 t288) (wrap64 (x10_3 + 1)) a0_0 a0_1 a0_2 l0_3 l0_4 t285 x288001_1 t288 y315 t286) = some (r1, r2, r3, r4, r5) := by first | (rw [hy315]; with_reducible exact H) | (have H2_ := (Option.bind_some _ _).symm.trans H; rw [hy315]; with_reducible exact H2_) | (have H2_ := (Option.bind_some _ _).symm.trans H; with_reducible exact H2_) | with_reducible exact H | (rw [hy315]; exact H) | exact H
        have Ny315 := aM_ hy315; clear hy315; have H' := aM_ H; clear H; have hnb89 := NB283_284.out; have hnc89 := NB284_283.out; have hnb90 := NB283_287.out; have hnc90 := NB287_283.out; obtain ⟨_, _, _, _, _, _, _, _, _, _⟩ := cs5_ BK283.out
        try go_wp2
        have n0_ := aM_ (Kd.R_drew HO_288001.out); have n1_ := aM_ (Kd.R_drew HO_288003.out); have n2_ := aM_ (ka_ BK283.out); have n3_ := aM_ (ka_ BK284.out); have n4_ := aM_ (ka_ BK287.out); have n5_ := aM_ (ga_ HB.out); clear HO_288001; clear HO_288003; clear BK283; clear BK284; clear BK287; clear HB; have HO_288001 := n0_; have HO_288003 := n1_; have BK283 := n2_; have BK284 := n3_; have BK287 := n4_; have HB := n5_; clear n0_ n1_ n2_ n3_ n4_ n5_; obtain ⟨Ao93, co93, eo93⟩ := Kd.R_slice HO_288001.out
        (first | subst eo93 | (injection eo93 with f1_ f2_ f3_; have f4_ := f1_.symm; have f5_ := f3_.symm; clear f1_ f2_ f3_; subst f4_; subst f5_))
        refine fd_ (n := 13) (S := fun w' => w'.cell? ⟨gb287, 0, none⟩ = some (.int .i64 t285) ∧ w'.cell? ⟨gb287, 1, none⟩ = some (.slice Ao93 x288001_1.length co93) ∧ w'.cell? ⟨gb287, 2, none⟩ = some (.int .i64 t288) ∧ w'.cell? ⟨gb287, 3, none⟩ = some (u288003) ∧ w'.cell? ⟨gb287, 4, none⟩ = some (.int .i64 t286)) (ds := [12]) (f_ 13 0) Ti_ rfl rfl (cf5_ BK287.out) (fun hHeld => ?_); refine wg_ l4_Raw_Make.tab20 l4_Raw_Make.bits20 (fun HT_ HW_ => ?_); generalize wr.drew = w92 at HO_288001 HO_288003 BK283 BK284 BK287 HB hHeld ⊢; refine pV_ 0 ?_; refine pV_ 1 ?_; refine pV_ 3 ?_; refine pV_ 4 ?_; refine tV5_ 2 ?_; refine tV5_ 5 ?_; refine pV_ 6 ?_; refine oN_ 7 fun K hK => ?_
        refine gO_ Tryz.func122 #[.int .i64 x10_3, .int .i64 (x288001_1.length : Int)] ?_
        with_reducible refine (l4_within.calls _ _ _ _ A87.out).mono ?_
        rintro e w' ⟨rfl, ⟨nd, rfl⟩⟩; refine ⟨_, rfl, ?_⟩; refine hK.out _ _ (cf5_ BK287.out) (fun hHeld => ?_); clear hK K; refine nO_ ?_; refine oN_ 8 fun K hK => ?_
        refine cd_ (w1 := ?_) (v := ?_) Vh_ rfl ?_ ?_; rotate_left 2
        ·go_simp
         constructor
         ·rfl
         rfl
        refine hK.out _ _ ⟨(ba_ (ia_ BK287.out _) 0).trans rfl, (ba_ (ia_ BK287.out _) 1).trans rfl, (ba_ (ia_ BK287.out _) 2).trans rfl, (ba_ (ia_ BK287.out _) 3).trans rfl, (ba_ (ia_ BK287.out _) 4).trans rfl⟩ (fun hHeld => ?_); clear hK K; refine nO_ ?_; refine oN_ 9 fun K hK => ?_
        refine Kd.R_append_step (Kd.int .i64) (w0 := w) w.heap.size Vh_ (.tmp 101) (.tmp 107) 35 3 (.int .i64 0) 8 rfl Tryz.underlying35 qg_ rfl Tm_ Td_ u288003 x288003_3 t314 [.int .i64 t314] (fun k_ => some k_ ≠ (.slice Ao93 x288001_1.length co93 : Value).ownBlock) (fun _ => False) rfl rfl ?aP (fun _ hk => hk.elim) ?aF ?aO ?aB ?aS ?aL ?_
        (case aP => exact rfl)
        (case aB => exact Tf_)
        (case aF => exact (fun k_ hk => Kd.fresh' (Kd.R_lt Tu_) k_ hk))
        (case aO => exact (by (with_reducible repeat (first | apply Kd.R_alloc | apply Kd.R_drewN | apply Kd.R_drew)); exact HO_288003.out))
        (case aS => exact (na_ Tf_))
        (case aL => have := LMc88.out; omega)
        intro v316 w94 ho hb hg hat; rw [← Ny315.out] at ho; have n0_ := aM_ (Kd.R_after (ok := (fun _ => True)) (by (with_reducible repeat (first | apply Kd.R_alloc | apply Kd.R_drewN | apply Kd.R_drew)); exact Kd.R_mono HO_288001.out (fun _ hk => ⟨trivial, hk⟩)) hg hat); have n1_ := aM_ (fb_ (g := gb283) (o := .cells #[.int .i64 a0_0, .int .i64 a0_1, .int .i64 a0_2, .slice A0_3 l0_3.length c0_3, .slice A0_4 l0_4.length c0_4] 120 (0, 0)) Tg_ hg (Kd.R_ne HO_288003.out BK283.out Tm_)); have n2_ := aM_ (fb_ (g := gb284) (o := .cells #[.int .i64 0, .slice none 0 0, .int .i64 0, .slice none 0 0, .int .i64 0] 56 (0, 0)) Tj_ hg (Kd.R_ne HO_288003.out BK284.out Tm_)); have n3_ := aM_ (fb_ (g := gb287) (o := .cells #[.int .i64 t285, .slice Ao93 x288001_1.length co93, .int .i64 t288, u288003, .int .i64 t286] 56 (0, 0)) Tn_ hg (Kd.R_ne HO_288003.out BK287.out Tm_)); have n4_ := aM_ (hb); have n5_ := aM_ (ho); clear HO_288001; clear BK283; clear BK284; clear BK287; clear HB; clear HO_288003; have HO_288001 := n0_; have BK283 := n1_; have BK284 := n2_; have BK287 := n3_; have HB := n4_; have HO317 := n5_; clear n0_ n1_ n2_ n3_ n4_ n5_; clear ho hb hg hat; obtain ⟨Ao95, co95, eo95⟩ := Kd.R_slice HO317.out
        (first | subst eo95 | (injection eo95 with f1_ f2_ f3_; have f4_ := f1_.symm; have f5_ := f3_.symm; clear f1_ f2_ f3_; subst f4_; subst f5_))
        refine hK.out _ _ (cf5_ BK287.out) (fun hHeld => ?_); clear hK K; refine nO_ ?_; refine pV_ 10 ?_; refine pV_ 11 ?_; refine lN_ 12 fun K hK => ?_
        have hs96 : w94.cell? ⟨gb287, 3, none⟩ = some (u288003) := (ba_ BK287.out 3).trans rfl; have hfs96 := ha_ BK287.out 3; have hns96_0 := NB283_287.out; have hns96_1 := NB284_287.out; have hms96_0 := NB287_283.out; have hms96_1 := NB287_284.out; refine uf_ (w1 := ?_) Vh_ rfl ?_ ?_; rotate_left
        ·go_simp
         rfl
        refine hK.out _ _ ?_; clear hK K; refine wd_ (yj_ HT_.out Ti_) ?_
        try go_wp2
        go_roundg k3
        case measure => have := HK1.out; have := HJ26.out; have := HK3.out; omega
        case rel => exact ⟨(wrap64 (x10_3 + 1)), (y315), (.slice Ao95 y315.length co95), Tc_, H', ⟨by have := HK1.out; have := HJ26.out; have := HK3.out; omega⟩, ⟨by (with_reducible repeat (first | apply Kd.R_alloc | apply Kd.R_drewN | apply Kd.R_drew)); exact Kd.R_mono (Kd.R_far (p := ⟨gb287, 3, none⟩) (Kd.R_types HO_288001.out BK287.out Tm_) (fun _ hk => hk.2) (.slice Ao95 y315.length co95)) (fun _ hk => hk.1.2)⟩, ⟨by (with_reducible repeat (first | apply Kd.R_alloc | apply Kd.R_drewN | apply Kd.R_drew)); exact Kd.R_mono (Kd.R_far (p := ⟨gb287, 3, none⟩) (Kd.R_types HO317.out BK287.out Tm_) (fun _ hk => hk.2) (.slice Ao95 y315.length co95)) (fun _ hk => hk.1)⟩, ⟨Ty_⟩, ⟨Tz_⟩, ⟨by (with_reducible repeat (first | refine ja_ ?_ _ | refine ka_ ?_ | refine ia_ ?_ _)); refine jc_ (cs := #[.int .i64 t285, .slice Ao93 x288001_1.length co93, .int .i64 t288, u288003, .int .i64 t286]) ?_ 3 _ rfl; (with_reducible repeat (first | refine ja_ ?_ _ | refine ka_ ?_ | refine ia_ ?_ _)); exact BK287.out⟩, ⟨Tf_⟩⟩
       rw [if_neg c88] at H; exact absurd H Tt_
      rw [if_neg c74] at H; have c74b0 := decide_eq_false c74; clear c74; simp only [Option.some.injEq, Prod.mk.injEq] at H; obtain ⟨rfl, rfl, rfl, rfl, rfl⟩ := H; have hnb97 := NB287_283.out; have hnc97 := NB283_287.out; have hnb98 := NB287_284.out; have hnc98 := NB284_287.out; obtain ⟨_, _, _, _, _, _, _, _, _, _⟩ := cs5_ BK287.out; have hnb100 := NB284_283.out; have hnc100 := NB283_284.out; obtain ⟨_, _, _, _, _, _, _, _, _, _⟩ := cs5_ BK284.out; obtain ⟨Ao102, co102, eo102⟩ := Kd.R_slice HO_288001.out; subst eo102; obtain ⟨Ao103, co103, eo103⟩ := Kd.R_slice HO_288003.out; subst eo103
      go_wp2
      refine bodyPost_ret (results_cell_row rfl _ _ gb284 56 #[.int .i64 t285, .slice Ao102 x288001_1.length co102, .int .i64 t288, .slice Ao103 x288003_3.length co103, .int .i64 t286] (0, 0) _ rfl (by (with_reducible repeat (first | refine ja_ ?_ _ | refine ka_ ?_ | refine ia_ ?_ _)); refine jc_ (cs := #[.int .i64 t285, .slice Ao102 x288001_1.length co102, .int .i64 t288, .slice Ao103 x288003_3.length co103, .int .i64 0]) ?_ 4 _ rfl; (with_reducible repeat (first | refine ja_ ?_ _ | refine ka_ ?_ | refine ia_ ?_ _)); refine jc_ (cs := #[.int .i64 t285, .slice Ao102 x288001_1.length co102, .int .i64 t288, .slice none 0 0, .int .i64 0]) ?_ 3 _ rfl; (with_reducible repeat (first | refine ja_ ?_ _ | refine ka_ ?_ | refine ia_ ?_ _)); refine jc_ (cs := #[.int .i64 t285, .slice Ao102 x288001_1.length co102, .int .i64 0, .slice none 0 0, .int .i64 0]) ?_ 2 _ rfl; (with_reducible repeat (first | refine ja_ ?_ _ | refine ka_ ?_ | refine ia_ ?_ _)); refine jc_ (cs := #[.int .i64 t285, .slice none 0 0, .int .i64 0, .slice none 0 0, .int .i64 0]) ?_ 1 _ rfl; (with_reducible repeat (first | refine ja_ ?_ _ | refine ka_ ?_ | refine ia_ ?_ _)); refine jc_ (cs := #[.int .i64 0, .slice none 0 0, .int .i64 0, .slice none 0 0, .int .i64 0]) ?_ 0 _ rfl; (with_reducible repeat (first | refine ja_ ?_ _ | refine ka_ ?_ | refine ia_ ?_ _)); exact BK284.out) Tryz.underlying56 rfl Ti_) rfl ?_; exact ⟨_, _, Tl_, by (with_reducible repeat (first | apply Kd.R_alloc | apply Kd.R_drewN | apply Kd.R_drew)); exact Kd.R_mono (Kd.R_far (p := ⟨gb284, 4, none⟩) (Kd.R_far (p := ⟨gb284, 3, none⟩) (Kd.R_far (p := ⟨gb284, 2, none⟩) (Kd.R_far (p := ⟨gb284, 1, none⟩) (Kd.R_far (p := ⟨gb284, 0, none⟩) (Kd.R_types HO_288001.out BK284.out Tm_) (fun _ hk => hk.2) (.int .i64 t285)) (fun _ hk => hk.2) (.slice Ao102 x288001_1.length co102)) (fun _ hk => hk.2) (.int .i64 t288)) (fun _ hk => hk.2) (.slice Ao103 x288003_3.length co103)) (fun _ hk => hk.2) (.int .i64 t286)) (fun _ hk => hk.1), by (with_reducible repeat (first | apply Kd.R_alloc | apply Kd.R_drewN | apply Kd.R_drew)); exact Kd.R_mono (Kd.R_far (p := ⟨gb284, 4, none⟩) (Kd.R_far (p := ⟨gb284, 3, none⟩) (Kd.R_far (p := ⟨gb284, 2, none⟩) (Kd.R_far (p := ⟨gb284, 1, none⟩) (Kd.R_far (p := ⟨gb284, 0, none⟩) (Kd.R_types HO_288003.out BK284.out Tm_) (fun _ hk => hk.2) (.int .i64 t285)) (fun _ hk => hk.2) (.slice Ao102 x288001_1.length co102)) (fun _ hk => hk.2) (.int .i64 t288)) (fun _ hk => hk.2) (.slice Ao103 x288003_3.length co103)) (fun _ hk => hk.2) (.int .i64 t286)) (fun _ hk => hk.1), Tf_⟩
  rw [if_neg c7] at H; exact absurd H Tt_
 rw [if_neg c6] at H
 exact absurd H Tt_
theorem rc_ (a n : Int) (hn : 0 < n) (hn2 : n ≤ 4611686018427387904) : l4_within.f a n = some (a % n) := by
 unfold l4_within.f
 have h1 := Int.emod_nonneg a (by omega : n ≠ 0)
 have h2 := Int.emod_lt_of_pos a hn
 have h4 : (n.natAbs : Int) = n := by omega
 rw [if_neg Td_]
 have h3 := @Int.tmod_eq_emod a n
 by_cases hd : 0 ≤ a ∨ n ∣ a
 ·rw [if_pos hd] at h3
  rw [if_neg Td_, h3]
  congr 1
  omega
 rw [if_neg hd, h4] at h3
 rw [if_pos Td_, h3]
 congr 1
 unfold wrap64
 omega
theorem jh_ (a n : Int) (hn : 0 < n) : 0 ≤ a % n := Int.emod_nonneg a Td_
theorem ih_ (a n : Int) (hn : 0 < n) : a % n < n := Int.emod_lt_of_pos a hn
theorem as_fin {x n : Int} (m : Nat) (hm : n = m) (h0 : 0 ≤ x) (h1 : x < n) : ∃ i : Fin m, x = ((i.val : Nat) : Int) := ⟨⟨x.toNat, Td_⟩, Wo_⟩
def aj_ (P : Program) (t : TypeId) {α : Type} (d : Kd α) (ok : α → Prop) : Prop :=
 P.cellsOf t = d.sz ∧ ∀ (H : Type) (enc : TypeId × Value → H) (W : World) (base : Nat) (spare : Nat → Bool) (held : Bool) (fuel : Nat) (cs : List Value) (x : DataW H × List MemPlace), DataW.trod enc P W base spare held fuel t cs = some x → ∃ v : α, d.K W v cs ∧ ok v
theorem tu_ {P : Program} {t : TypeId} {k : IntKind} (ht : P.underlying t = some (.int k)) (hc : P.cellsOf t = 1) : aj_ P t (Kd.int k) (fun n => (Lit.int k n).wf = true) := by
 refine ⟨hc, fun H enc W base spare held fuel cs x h => ?_⟩
 obtain ⟨n, rfl, _, hw⟩ := DataW.trod_int ht h
 exact ⟨n, rfl, hw⟩
theorem xt_ {α : Type} {p : Nat → α → Prop} : ∀ n : Nat, (∀ i, i < n → ∃ v, p i v) → ∃ xs : List α, xs.length = n ∧ ∀ i v, xs[i]? = some v → p i v
 | 0, _ => ⟨[], rfl, fun i v h => by simp at h⟩
 | n + 1, h => by
  obtain ⟨xs, hl, hx⟩ := xt_ n (fun i hi => h i Td_); obtain ⟨v, hv⟩ := h n Td_; refine ⟨xs ++ [v], Xc_, fun i u hu => ?_⟩
  by_cases hi : i < xs.length
  ·rw [List.getElem?_append_left hi] at hu
   exact hx i u hu
  rw [List.getElem?_append_right Td_] at hu
  have h0 : i - xs.length = 0 := by
   have := (List.getElem?_eq_some_iff.1 hu).1; simp at this; omega
  rw [h0] at hu; obtain rfl := Option.some.inj hu; have : i = n := by omega
  rw [this]; exact hv
theorem bl_ {P : Program} {t e : TypeId} {α : Type} {d : Kd α} {ok : α → Prop} (ht : P.underlying t = some (.slice e)) (hc : P.cellsOf t = 1) (h : aj_ P e d ok) : aj_ P t (Kd.slice e d) (fun xs => ∀ x ∈ xs, ok x) := by
 refine ⟨hc, fun H enc W base spare held fuel cs x hx => ?_⟩
 rcases Go.Deep.open_slice ht hx with ⟨rfl, _⟩ | ⟨a, len, cap, m, n, D, Pl, rfl, _, hl, hm, hmm, _, hel⟩
 ·exact ⟨[], ⟨none, 0, rfl, Nat.le_refl _, rfl, Tt_, fun h => absurd h (Nat.lt_irrefl _)⟩, Tt_⟩
 have hle : len ≤ m := by rw [hmm]; split <;> omega
 obtain ⟨xs, hxl, hxs⟩ := xt_ (p := fun i v => ∃ cs', W.cells? base (a.add (i * d.sz)) d.sz = some cs' ∧ d.K W v cs' ∧ ok v) len (fun i hi => by
  obtain ⟨cs', h1, h2⟩ := hel i Td_; obtain ⟨v, h3, h4⟩ := h.2 H enc W base spare held n cs' _ h2; rw [h.1] at h1
  exact ⟨v, cs', h1, h3, h4⟩)
 have hmax : maxLen ≤ 9223372036854775807 := by decide
 refine ⟨xs, ⟨some a, cap, by rw [hxl], Td_, rfl, Td_, fun _ => ⟨a, rfl, fun j p hj => ?_⟩⟩, fun y hy => ?_⟩
 ·obtain ⟨cs', h1, h2, _⟩ := hxs j p hj
  obtain ⟨_, h3, h4⟩ := World.cells?_some h1; refine ⟨cs', h3, h2, fun i u hu => ?_⟩; have h5 := h4 i (by rw [← h3]; exact (List.getElem?_eq_some_iff.1 hu).1); rw [hu, add_add] at h5; exact h5
 obtain ⟨j, hj, rfl⟩ := List.mem_iff_getElem.1 hy
 obtain ⟨_, _, _, h4⟩ := hxs j _ (List.getElem?_eq_getElem hj)
 exact h4
abbrev wfI (n : Int) : Prop := (Lit.int .i64 n).wf = true
theorem cl_ : aj_ Tryz.prog 3 (Kd.int .i64) wfI := tu_ Tryz.underlying3 Ti_
theorem opInts : aj_ Tryz.prog 35 (Kd.slice 3 (Kd.int .i64)) (fun l => ∀ n ∈ l, wfI n) := bl_ Tryz.underlying35 Ti_ cl_
theorem sj_ {P : Program} {t : TypeId} {fs : Array Field} (ht : P.underlying t = some (.struct fs)) {H : Type} {enc : TypeId × Value → H} {W : World} {base : Nat} {spare : Nat → Bool} {held : Bool} {fuel : Nat} {cs : List Value} {x : DataW H × List MemPlace} (h : DataW.trod enc P W base spare held fuel t cs = some x) :
  cs.length = P.cellsOf t ∧ ∀ (i : Nat) (f : Field), fs[i]? = some f → ∀ {α : Type} {d : Kd α} {ok : α → Prop}, aj_ P f.type d ok → ∃ v, d.K W v ((cs.drop f.offset).take d.sz) ∧ ok v := by
 obtain ⟨xs, n, _, _, hl, hlen, hf⟩ := DataW.trod_struct ht h
 refine ⟨hl, fun i f hi α d ok ho => ?_⟩
 have h1 := hf i f hi
 have hil : i < xs.length := by
  have := (Array.getElem?_eq_some_iff.1 hi).1; omega
 rw [List.getElem?_eq_getElem hil, ho.1] at h1
 exact ho.2 H enc W base spare held n _ _ h1
def dl_ (x : S120) : Prop := wfI x.f0 ∧ wfI x.f1 ∧ wfI x.f2 ∧ (∀ n ∈ x.f3, wfI n) ∧ ∀ n ∈ x.f4, wfI n
theorem opRaw : aj_ Tryz.prog 120 k120 dl_ := by
 refine ⟨Ti_, fun H enc W base spare held fuel cs x h => ?_⟩
 obtain ⟨hl, hf⟩ := sj_ Tryz.underlying120 h
 have hl2 : cs.length = 5 := hl.trans Ti_
 obtain ⟨v0, k0, w0⟩ := hf 0 _ rfl cl_
 obtain ⟨v1, k1, w1⟩ := hf 1 _ rfl cl_
 obtain ⟨v2, k2, w2⟩ := hf 2 _ rfl cl_
 obtain ⟨v3, ⟨A3, c3, k3, l3, g3⟩, w3⟩ := hf 3 _ rfl opInts
 obtain ⟨v4, ⟨A4, c4, k4, l4, g4⟩, w4⟩ := hf 4 _ rfl opInts
 match cs, hl2 with
 | [b0, b1, b2, b3, b4], _ =>
  have e0 : [b0] = [.int .i64 v0] := k0; have e1 : [b1] = [.int .i64 v1] := k1; have e2 : [b2] = [.int .i64 v2] := k2; have e3 : [b3] = [.slice A3 v3.length c3] := k3; have e4 : [b4] = [.slice A4 v4.length c4] := k4; rw [(List.cons.inj e0).1, (List.cons.inj e1).1, (List.cons.inj e2).1, (List.cons.inj e3).1, (List.cons.inj e4).1]; exact ⟨⟨v0, v1, v2, v3, v4⟩, k120_mk W ⟨v0, v1, v2, v3, v4⟩ l3 g3 l4 g4, w0, w1, w2, w3, w4⟩
theorem opRaws : aj_ Tryz.prog 22 (Kd.slice 120 k120) (fun l => ∀ x ∈ l, dl_ x) := bl_ Tryz.underlying22 Ti_ opRaw
mutual
noncomputable def l4_Rules.l0 : Nat → List (S120) → Int → List (S56) → Int → Option ((List (S56)))
 | 0, _, _, _, _ => none
 | k + 1, x0, x1, x5, x6 => if x6 < (x0.length : Int) then (l4_Rules.j1 k x0 x1 x5 x6 (decide (x6 < 20))) else (l4_Rules.j1 k x0 x1 x5 x6 false)
noncomputable def l4_Rules.j1 : Nat → List (S120) → Int → List (S56) → Int → Bool → Option ((List (S56)))
 | 0, _, _, _, _, _ => none
 | k + 1, x0, x1, x5, x6, x15 => if x15 = true then ((some (([] : List (S56)) : List (S56))).bind fun y318 => (if y318.length + x5.length < 1954687338268 then ((some (y318 ++ x5 : List (S56))).bind fun y321 => (if 0 ≤ x6 then (if x6 < (x0.length : Int) then ((l4_Raw_Make.f k ((xa_ x0 x6).f0) ((xa_ x0 x6).f1) ((xa_ x0 x6).f2) ((xa_ x0 x6).f3) ((xa_ x0 x6).f4) x1).bind fun bt325 => (if y321.length < 1954687338268 then ((some (y321 ++ [(⟨bt325.1, bt325.2.1, (⟨bt325.2.2.1, bt325.2.2.2.1⟩ : S54), bt325.2.2.2.2⟩ : S56)] : List (S56))).bind fun y334 => ((r4_Check.f y334).bind fun t337 => (if t337 = true then (l4_Rules.l0 k x0 x1 y334 (wrap64 (x6 + 1))) else (l4_Rules.l0 k x0 x1 x5 (wrap64 (x6 + 1)))))) else (none))) else (none)) else (none))) else (none))) else (some x5)
end
noncomputable def l4_Rules.f (k : Nat) (l0 : List (S120)) (a1 : Int) : Option ((List (S56))) := l4_Rules.l0 k l0 a1 ([] : List (S56)) 0
def l4_Rules.T5 : Bool × List (List Nat × List Nat) := (true, [([], []), ([], []), ([0, 1], [0, 1]), ([], []), ([], []), ([3, 4], [3, 4]), ([5], [5]), ([], []), ([6, 7, 2], [6, 7]), ([8], [8]), ([2, 9, 8], [2, 9]), ([10, 10, 0, 1, 2, 3, 4, 5, 6, 7, 8, 9, 10], [10])])
def l4_Rules.B5 : List Nat := [0, 0, 3, 0, 0, 24, 56, 0, 255, 511, 1023, 2047]
theorem l4_Rules.tab5 : rtab .any (opsOf Tryz.f32 5) = l4_Rules.T5 := by kernel_rfl
theorem l4_Rules.bits5 : fh_ l4_Rules.T5.2 l4_Rules.B5 = true := by kernel_rfl
theorem l4_Rules.calls (k : Nat) (A0 : Option Addr) (c0 : Nat) (l0 : List (S120)) (a1 : Int) (r : List (S56)) (w : World) (hr0 : Kd.C k120 w A0 l0.length l0) (hc0 : l0.length ≤ c0) (h : l4_Rules.f k l0 a1 = some r) :
  Calls Tryz.prog 32 #[.slice A0 l0.length c0, .int .i64 a1] w fun e w' => ∃ v0_ : Value, e = .returned (v0_) ∧ Kd.N k56 56 w' w.heap.size (fun k_ => (w.heap.size ≤ k_)) v0_ r ∧ Below w.heap.size w w' := by
 have hu120 := Tryz.underlying120
 have HR0 := aM_ hr0
 have HC0 := aM_ hc0
 clear hr0 hc0
 have HB := aM_ (Below.refl w.heap.size w)
 have H : (l4_Rules.l0 k l0 a1 ([] : List (S56)) 0) = some r := h
 clear h
 have H' := aM_ H
 clear H
 go_enter Tryz.func32, Tryz.ntmps32
 go_wp2
 go_loopg [5, 6] k (fun kq v5 v6 w' => ∃ (x5_1 : List (S56)) (x6_1 : Int), v6 = .int .i64 x6_1 ∧ Az (l4_Rules.l0 kq l0 a1 x5_1 x6_1 = some r) ∧ Az (kq ≤ k) ∧ Az (Kd.N k56 56 w' w.heap.size (fun k_ => (w.heap.size ≤ k_)) v5 x5_1) ∧ Az (Below w.heap.size w w'))
 case atStart => exact ⟨(([] : List (S56))), (0), Tc_, H', ⟨Nat.le_refl _⟩, ⟨by first | exact Kd.S_nil _ _ _ _ _ | exact Kd.N_nil _ _ _ _ _ | exact Kd.V_nil _ _ _ _ _ | exact Kd.Q_nil _ _ _ _ _ | exact Kd.R_nil _ _ _ _ _⟩, ⟨Ta_⟩⟩
 clear H'
 obtain ⟨x5_1, x6_1, rfl, HA, HK1, HO_5, HB⟩ := hrel
 cases gk with
 | zero => exact absurd HA.out (by simp [l4_Rules.l0])
 | succ k1 =>
  have H := HA.out; clear HA; simp only [l4_Rules.l0] at H; have HC3 := aM_ H; clear H
  go_upto_region 3 with (fail)
  go_cut [15] (fun v15 wc => ∃ (kq : Nat) (x15_2 : Bool), v15 = .bool x15_2 ∧ Az (l4_Rules.j1 kq l0 a1 x5_1 x6_1 x15_2 = some r) ∧ Az (kq ≤ k1) ∧ Az (Kd.N k56 56 wc w.heap.size (fun k_ => (w.heap.size ≤ k_)) u5 x5_1) ∧ Az (Below w.heap.size w wc))
  case first =>
   have H := HC3.out; clear HC3
   by_cases c4 : x6_1 < (l0.length : Int)
   ·rw [if_pos c4] at H
    have c4b0 := decide_eq_true c4; clear c4
    (first | rw [c4b0] | (simp only [ya_, za_]; rw [c4b0]) | skip)
    have H' := aM_ H; clear H
    go_wp2
    go_meet
    case rel => exact ⟨_, (decide (x6_1 < 20)), Tc_, H', ⟨Wc_⟩, ⟨Tp_⟩, ⟨Ta_⟩⟩
   rw [if_neg c4] at H; have c4b0 := decide_eq_false c4; clear c4
   (first | rw [c4b0] | (simp only [ya_, za_]; rw [c4b0]) | skip)
   have H' := aM_ H; clear H
   go_wp2
   go_meet
   case rel => exact ⟨_, (false), Tc_, H', ⟨Wc_⟩, ⟨Tp_⟩, ⟨Ta_⟩⟩
  clear HC3; obtain ⟨kq, x15_2, rfl, HA, HJ2, HO_5, HB⟩ := hcut
  cases kq with
  | zero => exact absurd HA.out (by simp [l4_Rules.j1])
  | succ kj2 =>
   have H := HA.out; clear HA; simp only [l4_Rules.j1] at H
   by_cases c5 : x15_2 = true
   ·subst c5
    have H1 : ((some (([] : List (S56)) : List (S56))).bind fun y318 => (if y318.length + x5_1.length < 1954687338268 then ((some (y318 ++ x5_1 : List (S56))).bind fun y321 => (if 0 ≤ x6_1 then (if x6_1 < (l0.length : Int) then ((l4_Raw_Make.f kj2 ((xa_ l0 x6_1).f0) ((xa_ l0 x6_1).f1) ((xa_ l0 x6_1).f2) ((xa_ l0 x6_1).f3) ((xa_ l0 x6_1).f4) a1).bind fun bt325 => (if y321.length < 1954687338268 then ((some (y321 ++ [(⟨bt325.1, bt325.2.1, (⟨bt325.2.2.1, bt325.2.2.2.1⟩ : S54), bt325.2.2.2.2⟩ : S56)] : List (S56))).bind fun y334 => ((r4_Check.f y334).bind fun t337 => (if t337 = true then (l4_Rules.l0 kj2 l0 a1 y334 (wrap64 (x6_1 + 1))) else (l4_Rules.l0 kj2 l0 a1 x5_1 (wrap64 (x6_1 + 1)))))) else (none))) else (none)) else (none))) else (none))) = some r := by rw [if_pos rfl] at H; exact H
    clear H; have H := H1; clear H1; obtain ⟨y318, hy318⟩ : ∃ y_ : List (S56), y_ = (([] : List (S56))) := ⟨_, rfl⟩; replace H : (if y318.length + x5_1.length < 1954687338268 then ((some (y318 ++ x5_1 : List (S56))).bind fun y321 => (if 0 ≤ x6_1 then (if x6_1 < (l0.length : Int) then ((l4_Raw_Make.f kj2 ((xa_ l0 x6_1).f0) ((xa_ l0 x6_1).f1) ((xa_ l0 x6_1).f2) ((xa_ l0 x6_1).f3) ((xa_ l0 x6_1).f4) a1).bind fun bt325 => (if y321.length < 1954687338268 then ((some (y321 ++ [(⟨bt325.1, bt325.2.1, (⟨bt325.2.2.1, bt325.2.2.2.1⟩ : S54), bt325.2.2.2.2⟩ : S56)] : List (S56))).bind fun y334 => ((r4_Check.f y334).bind fun t337 => (if t337 = true then (l4_Rules.l0 kj2 l0 a1 y334 (wrap64 (x6_1 + 1))) else (l4_Rules.l0 kj2 l0 a1 x5_1 (wrap64 (x6_1 + 1)))))) else (none))) else (none)) else (none))) else (none)) = some r := by first | (rw [hy318]; with_reducible exact H) | (have H2_ := (Option.bind_some _ _).symm.trans H; rw [hy318]; with_reducible exact H2_) | (have H2_ := (Option.bind_some _ _).symm.trans H; with_reducible exact H2_) | with_reducible exact H | (rw [hy318]; exact H) | exact H
    have Ny318 := aM_ hy318; clear hy318
    by_cases c6 : y318.length + x5_1.length < 1954687338268
    ·rw [if_pos c6] at H
     have LMc6 := aM_ c6; clear c6; obtain ⟨y321, hy321⟩ : ∃ y_ : List (S56), y_ = (y318 ++ x5_1) := ⟨_, rfl⟩; replace H : (if 0 ≤ x6_1 then (if x6_1 < (l0.length : Int) then ((l4_Raw_Make.f kj2 ((xa_ l0 x6_1).f0) ((xa_ l0 x6_1).f1) ((xa_ l0 x6_1).f2) ((xa_ l0 x6_1).f3) ((xa_ l0 x6_1).f4) a1).bind fun bt325 => (if y321.length < 1954687338268 then ((some (y321 ++ [(⟨bt325.1, bt325.2.1, (⟨bt325.2.2.1, bt325.2.2.2.1⟩ : S54), bt325.2.2.2.2⟩ : S56)] : List (S56))).bind fun y334 => ((r4_Check.f y334).bind fun t337 => (if t337 = true then (l4_Rules.l0 kj2 l0 a1 y334 (wrap64 (x6_1 + 1))) else (l4_Rules.l0 kj2 l0 a1 x5_1 (wrap64 (x6_1 + 1)))))) else (none))) else (none)) else (none)) = some r := by first | (rw [hy321]; with_reducible exact H) | (have H2_ := (Option.bind_some _ _).symm.trans H; rw [hy321]; with_reducible exact H2_) | (have H2_ := (Option.bind_some _ _).symm.trans H; with_reducible exact H2_) | with_reducible exact H | (rw [hy321]; exact H) | exact H
     have Ny321 := aM_ hy321; clear hy321
     by_cases c7 : 0 ≤ x6_1
     ·rw [if_pos c7] at H
      have c7b0 := decide_eq_true c7; clear c7
      by_cases c8 : x6_1 < (l0.length : Int)
      ·rw [if_pos c8] at H
       have c8b0 := decide_eq_true c8; clear c8; replace H := Option.bind_eq_some_iff.mp H; obtain ⟨⟨t325, t326, t329, t330, t333⟩, A90, H⟩ := H; replace H : (if y321.length < 1954687338268 then ((some (y321 ++ [(⟨t325, t326, (⟨t329, t330⟩ : S54), t333⟩ : S56)] : List (S56))).bind fun y334 => ((r4_Check.f y334).bind fun t337 => (if t337 = true then (l4_Rules.l0 kj2 l0 a1 y334 (wrap64 (x6_1 + 1))) else (l4_Rules.l0 kj2 l0 a1 x5_1 (wrap64 (x6_1 + 1)))))) else (none)) = some r := H; have A9 := aM_ A90; clear A90
       by_cases c10 : y321.length < 1954687338268
       ·rw [if_pos c10] at H
        have LMc10 := aM_ c10; clear c10; obtain ⟨y334, hy334⟩ : ∃ y_ : List (S56), y_ = (y321 ++ [(⟨t325, t326, (⟨t329, t330⟩ : S54), t333⟩ : S56)]) := ⟨_, rfl⟩; replace H : ((r4_Check.f y334).bind fun t337 => (if t337 = true then (l4_Rules.l0 kj2 l0 a1 y334 (wrap64 (x6_1 + 1))) else (l4_Rules.l0 kj2 l0 a1 x5_1 (wrap64 (x6_1 + 1))))) = some r := by first | (rw [hy334]; with_reducible exact H) | (have H2_ := (Option.bind_some _ _).symm.trans H; rw [hy334]; with_reducible exact H2_) | (have H2_ := (Option.bind_some _ _).symm.trans H; with_reducible exact H2_) | with_reducible exact H | (rw [hy334]; exact H) | exact H
        have Ny334 := aM_ hy334; clear hy334; replace H := bd_ H; obtain ⟨t337, A11, H⟩ := H
        by_cases c12 : t337 = true
        ·subst c12
         have H1 : (l4_Rules.l0 kj2 l0 a1 y334 (wrap64 (x6_1 + 1))) = some r := by rw [if_pos rfl] at H; exact H
         clear H; have H := H1; clear H1; have H' := aM_ H; clear H
         try go_wp2
         have n0_ := aM_ (Kd.N_drew HO_5.out); have n1_ := aM_ (ga_ HB.out); clear HO_5; clear HB; have HO_5 := n0_; have HB := n1_; clear n0_ n1_; have p324 : 0 ≤ (x6_1 : Int) := of_decide_eq_true Te_; have q324 : x6_1 < (l0.length : Int) := of_decide_eq_true Te_; obtain ⟨ad324, A324_3, c324_3, A324_4, c324_4, e324, hx324_0, hx324_1, hx324_2, hx324_3, hx324_4, hl324_3, hi324_3, hl324_4, hi324_4⟩ := ph_ HR0.out x6_1 p324 q324; have hw324_4 := hx324_4; have hw324_3 := hx324_3; have hw324_2 := hx324_2; have hw324_1 := hx324_1; have hw324_0 := hx324_0
         cases e324
         replace hx324_0 := (HB.out.cell (World.block_lt_of_cell? w _ hx324_0)).trans hx324_0; replace hx324_1 := (HB.out.cell (World.block_lt_of_cell? w _ hx324_1)).trans hx324_1; replace hx324_2 := (HB.out.cell (World.block_lt_of_cell? w _ hx324_2)).trans hx324_2; replace hx324_3 := (HB.out.cell (World.block_lt_of_cell? w _ hx324_3)).trans hx324_3; replace hx324_4 := (HB.out.cell (World.block_lt_of_cell? w _ hx324_4)).trans hx324_4; have HR324_3 := aM_ hi324_3; have HC324_3 := aM_ hl324_3; clear hi324_3 hl324_3; have HR324_4 := aM_ hi324_4; have HC324_4 := aM_ hl324_4; clear hi324_4 hl324_4; replace p324 := eq_true p324; replace q324 := eq_true q324; refine fd_ (n := 12) (S := fun w' => w'.cell? (ad324.add ((x6_1).toNat * 5)) = some (.int .i64 ((xa_ l0 x6_1).f0)) ∧ w'.cell? ⟨(ad324.add ((x6_1).toNat * 5)).block, (ad324.add ((x6_1).toNat * 5)).off + 1, none⟩ = some (.int .i64 ((xa_ l0 x6_1).f1)) ∧ w'.cell? ⟨(ad324.add ((x6_1).toNat * 5)).block, (ad324.add ((x6_1).toNat * 5)).off + 2, none⟩ = some (.int .i64 ((xa_ l0 x6_1).f2)) ∧ w'.cell? ⟨(ad324.add ((x6_1).toNat * 5)).block, (ad324.add ((x6_1).toNat * 5)).off + 3, none⟩ = some (.slice A324_3 ((xa_ l0 x6_1).f3).length c324_3) ∧ w'.cell? ⟨(ad324.add ((x6_1).toNat * 5)).block, (ad324.add ((x6_1).toNat * 5)).off + 4, none⟩ = some (.slice A324_4 ((xa_ l0 x6_1).f4).length c324_4)) (ds := []) (f_ 12 0) Ti_ rfl rfl ⟨((HB.out.cell (World.block_lt_of_cell? w _ hw324_0)).trans hw324_0), ((HB.out.cell (World.block_lt_of_cell? w _ hw324_1)).trans hw324_1), ((HB.out.cell (World.block_lt_of_cell? w _ hw324_2)).trans hw324_2), ((HB.out.cell (World.block_lt_of_cell? w _ hw324_3)).trans hw324_3), ((HB.out.cell (World.block_lt_of_cell? w _ hw324_4)).trans hw324_4)⟩ (fun hHeld => ?_); refine wg_ l4_Rules.tab5 l4_Rules.bits5 (fun HT_ HW_ => ?_); generalize wc.drew = w13 at HO_5 HB HR324_3 HR324_4 hx324_0 hx324_1 hx324_2 hx324_3 hx324_4 hHeld ⊢; refine pV_ 1 ?_; refine pV_ 3 ?_; refine pV_ 4 ?_; refine pV_ 5 ?_; refine pV_ 7 ?_; refine tV5_ 6 ?_; refine oN_ 0 fun K hK => ?_
         refine Kd.N_lit_step k56 _ 56 rfl (N' := 18) rfl (xs := ([] : List (S56))) (inner := []) (ok := (fun k_ => (w.heap.size ≤ k_) ∧ some k_ ≠ (u5 : Value).ownBlock)) (okp := (fun k_ => (w.heap.size ≤ k_) ∧ some k_ ≠ (u5 : Value).ownBlock)) Tx_ ?hp (fun _ hk => hk) ((show ∀ k_, w13.heap.size ≤ k_ → (fun k_ => (w.heap.size ≤ k_) ∧ some k_ ≠ (u5 : Value).ownBlock) k_ from fun k_ hk => ⟨(Nat.le_trans (na_ Ta_) hk), Kd.fresh' (Kd.N_lt Tp_) k_ hk⟩) _ (Nat.le_refl _)) (Below.refl _ _) (Nat.le_refl _) Tt_ ?_; (case hp => exact (Reps.none _ _)); intro v319 w14 ho15 hb hg_ hnew_; clear hg_ hnew_
         (first | rw [← Ny318.out] at ho15 | (simp only [Int.reduceToNat] at ho15; rw [← Ny318.out] at ho15))
         have n0_ := aM_ (Kd.N_elder' Tp_ (Kd.N_base ho15) hb); have n1_ := aM_ (Kd.N_lower ho15 (na_ Ta_)); have n2_ := aM_ (da_ Ta_ hb); clear HO_5; clear HB; have HO_5 := n0_; have HO320 := n1_; have HB := n2_; clear n0_ n1_ n2_; clear hb ho15; obtain ⟨Ao17, co17, eo17⟩ := Kd.N_slice HO_5.out
         (first | subst eo17 | (injection eo17 with f1_ f2_ f3_; have f4_ := f1_.symm; have f5_ := f3_.symm; clear f1_ f2_ f3_; subst f4_; subst f5_))
         refine hK.out _ _ ⟨((HB.out.cell (World.block_lt_of_cell? w _ hw324_0)).trans hw324_0), ((HB.out.cell (World.block_lt_of_cell? w _ hw324_1)).trans hw324_1), ((HB.out.cell (World.block_lt_of_cell? w _ hw324_2)).trans hw324_2), ((HB.out.cell (World.block_lt_of_cell? w _ hw324_3)).trans hw324_3), ((HB.out.cell (World.block_lt_of_cell? w _ hw324_4)).trans hw324_4)⟩ (fun hHeld => ?_); clear hK K; refine nO_ ?_; refine oN_ 2 fun K hK => ?_
         refine Kd.N_append_rows_step k56 (w0 := w) w.heap.size Vh_ (.tmp 18) (.tmp 19) 41 56 (.agg #[(.int .i64 0), (.slice none 0 0), (.int .i64 0), (.slice none 0 0), (.int .i64 0)]) 72 rfl Tryz.underlying41 mm_ rfl Tm_ Td_ v319 y318 x5_1 _ _ _ (fun k_ => (w.heap.size ≤ k_)) (fun k_ => ((fun k_ => (w.heap.size ≤ k_))) k_ ∧ some k_ ≠ (v319 : Value).ownBlock) rfl rfl ?aO ?aR (fun _ hk => hk) ?aF ?aB ?aS ?aL ?_
         (case aR => exact (by skip; exact Kd.N_F (Kd.N_mono (ok' := (fun k_ => ((fun k_ => (w.heap.size ≤ k_))) k_ ∧ some k_ ≠ (v319 : Value).ownBlock)) (HO_5.out) (fun k_ hk => ⟨hk.1, hk.2⟩))))
         (case aB => exact Ta_)
         (case aF => exact (fun k_ hk => (Nat.le_trans (na_ Ta_) hk)))
         (case aO => exact (by (with_reducible repeat (first | apply Kd.N_alloc | apply Kd.N_drewN | apply Kd.N_drew)); exact Kd.N_mono HO320.out (fun _ hk => hk.1)))
         (case aS => exact (na_ Ta_))
         (case aL => have := LMc6.out; omega)
         intro v322 w16 ho hb hg hat; rw [← Ny321.out] at ho; have n0_ := aM_ (Kd.N_afterv (ok := (fun k_ => (w.heap.size ≤ k_))) Tp_ hg hat); have n1_ := aM_ (hb); have n2_ := aM_ (ho); clear HO_5; clear HB; clear HO320; have HO_5 := n0_; have HB := n1_; have HO323 := n2_; clear n0_ n1_ n2_; clear ho hb hg hat; refine hK.out _ _ ⟨((HB.out.cell (World.block_lt_of_cell? w _ hw324_0)).trans hw324_0), ((HB.out.cell (World.block_lt_of_cell? w _ hw324_1)).trans hw324_1), ((HB.out.cell (World.block_lt_of_cell? w _ hw324_2)).trans hw324_2), ((HB.out.cell (World.block_lt_of_cell? w _ hw324_3)).trans hw324_3), ((HB.out.cell (World.block_lt_of_cell? w _ hw324_4)).trans hw324_4)⟩ (fun hHeld => ?_); clear hK K; refine nO_ ?_; refine oN_ 8 fun K hK => ?_
         refine gO_ Tryz.func73 #[.agg #[.int .i64 ((xa_ l0 x6_1).f0), .int .i64 ((xa_ l0 x6_1).f1), .int .i64 ((xa_ l0 x6_1).f2), .slice A324_3 ((xa_ l0 x6_1).f3).length c324_3, .slice A324_4 ((xa_ l0 x6_1).f4).length c324_4], .int .i64 a1] ?_
         with_reducible refine (l4_Raw_Make.calls _ _ _ _ _ _ _ _ _ _ _ _ _ _ _ _ _ ?side1 ?side2 ?side3 ?side4 A9.out).mono ?_
         (case side1 => repeat (first | exact (Kd.C_below HR324_3.out HB.out) | (with_reducible refine Kd.C_alloc ?_ _) | (with_reducible refine Kd.C_drewN ?_ _) | (with_reducible refine Kd.C_drew ?_)))
         (case side2 => exact HC324_3.out)
         (case side3 => repeat (first | exact (Kd.C_below HR324_4.out HB.out) | (with_reducible refine Kd.C_alloc ?_ _) | (with_reducible refine Kd.C_drewN ?_ _) | (with_reducible refine Kd.C_drew ?_)))
         (case side4 => exact HC324_4.out)
         rintro e w18 ⟨v327, v331, rfl, ho0, ho1, hb⟩; refine ⟨_, rfl, ?_⟩; have n0_ := aM_ (Kd.N_mono (Kd.N_told (Kd.N_told (Kd.N_old Tp_ hb) (Kd.R_base ho0)) (Kd.R_base ho1)) (fun _ h_ => h_.1)); have n1_ := aM_ (Kd.N_mono (Kd.N_told (Kd.N_told (Kd.N_old (by (with_reducible repeat (first | apply Kd.N_alloc | apply Kd.N_drewN | apply Kd.N_drew)); exact HO323.out) hb) (Kd.R_base ho0)) (Kd.R_base ho1)) (fun _ h_ => h_.1)); have n2_ := aM_ (Kd.R_lower (Kd.R_newM (M := fun k_ => (w.heap.size ≤ k_)) ho0 (na_ Ta_) (fun k_ h_ => h_)) (na_ Ta_)); have n3_ := aM_ (Kd.R_lower (Kd.R_newM (M := fun k_ => (w.heap.size ≤ k_)) ho1 (na_ Ta_) (fun k_ h_ => h_)) (na_ Ta_)); have n4_ := aM_ (da_ Ta_ hb); clear HO_5; clear HO323; clear HB; have HO_5 := n0_; have HO323 := n1_; have HO328 := n2_; have HO332 := n3_; have HB := n4_; clear n0_ n1_ n2_ n3_ n4_
         (try clear hb)
         (try clear hb2)
         (try clear hk)
         (try clear hi)
         (try clear ho0)
         (try clear ho1)
         obtain ⟨Ao20, co20, eo20⟩ := Kd.R_slice HO328.out
         (first | subst eo20 | (injection eo20 with f1_ f2_ f3_; have f4_ := f1_.symm; have f5_ := f3_.symm; clear f1_ f2_ f3_; subst f4_; subst f5_))
         obtain ⟨Ao21, co21, eo21⟩ := Kd.R_slice HO332.out
         (first | subst eo21 | (injection eo21 with f1_ f2_ f3_; have f4_ := f1_.symm; have f5_ := f3_.symm; clear f1_ f2_ f3_; subst f4_; subst f5_))
         refine hK.out _ _ ⟨((HB.out.cell (World.block_lt_of_cell? w _ hw324_0)).trans hw324_0), ((HB.out.cell (World.block_lt_of_cell? w _ hw324_1)).trans hw324_1), ((HB.out.cell (World.block_lt_of_cell? w _ hw324_2)).trans hw324_2), ((HB.out.cell (World.block_lt_of_cell? w _ hw324_3)).trans hw324_3), ((HB.out.cell (World.block_lt_of_cell? w _ hw324_4)).trans hw324_4)⟩ (fun hHeld => ?_); clear hK K; refine nO_ ?_; refine oN_ 9 fun K hK => ?_
         refine cd_ (w1 := ?_) (v := ?_) Vh_ rfl ?_ ?_; rotate_left 2
         ·go_simp
          constructor
          ·rfl
          rfl
         refine hK.out _ _ ⟨(World.cell?_alloc_lt _ _ _ (World.block_lt_of_cell? _ _ (((HB.out.cell (World.block_lt_of_cell? w _ hw324_0)).trans hw324_0)))).trans (((HB.out.cell (World.block_lt_of_cell? w _ hw324_0)).trans hw324_0)), (World.cell?_alloc_lt _ _ _ (World.block_lt_of_cell? _ _ (((HB.out.cell (World.block_lt_of_cell? w _ hw324_1)).trans hw324_1)))).trans (((HB.out.cell (World.block_lt_of_cell? w _ hw324_1)).trans hw324_1)), (World.cell?_alloc_lt _ _ _ (World.block_lt_of_cell? _ _ (((HB.out.cell (World.block_lt_of_cell? w _ hw324_2)).trans hw324_2)))).trans (((HB.out.cell (World.block_lt_of_cell? w _ hw324_2)).trans hw324_2)), (World.cell?_alloc_lt _ _ _ (World.block_lt_of_cell? _ _ (((HB.out.cell (World.block_lt_of_cell? w _ hw324_3)).trans hw324_3)))).trans (((HB.out.cell (World.block_lt_of_cell? w _ hw324_3)).trans hw324_3)), (World.cell?_alloc_lt _ _ _ (World.block_lt_of_cell? _ _ (((HB.out.cell (World.block_lt_of_cell? w _ hw324_4)).trans hw324_4)))).trans (((HB.out.cell (World.block_lt_of_cell? w _ hw324_4)).trans hw324_4))⟩ (fun hHeld => ?_); clear hK K; refine nO_ ?_; refine oN_ 10 fun K hK => ?_
         refine Kd.N_append_step k56 (w0 := w) w.heap.size Vh_ (.tmp 20) (.tmp 27) 41 56 (.agg #[(.int .i64 0), (.slice none 0 0), (.int .i64 0), (.slice none 0 0), (.int .i64 0)]) 72 rfl Tryz.underlying41 mm_ rfl Tm_ Td_ v322 y321 (⟨t325, t326, (⟨t329, t330⟩ : S54), t333⟩ : S56) [.int .i64 t325, .slice Ao20 t326.length co20, .int .i64 t329, .slice Ao21 t330.length co21, .int .i64 t333] (fun k_ => (w.heap.size ≤ k_)) (fun k_ => ((fun k_ => (w.heap.size ≤ k_))) k_ ∧ some k_ ≠ (v322 : Value).ownBlock) rfl rfl ?aP (fun _ hk => hk) ?aF ?aO ?aB ?aS ?aL ?_
         (case aP => exact (au_ _ _ (⟨t325, t326, (⟨t329, t330⟩ : S54), t333⟩ : S56) (Kd.R_reads' (Kd.R_mono (ok' := (fun k_ => ((fun k_ => (w.heap.size ≤ k_))) k_ ∧ some k_ ≠ (v322 : Value).ownBlock)) (Kd.R_apart' (HO328.out) (Kd.N_typed HO323.out) Tm_) (fun k_ hk => ⟨hk.1.1, hk.2⟩))).2.1 (Kd.R_F (Kd.R_mono (ok' := (fun k_ => ((fun k_ => (w.heap.size ≤ k_))) k_ ∧ some k_ ≠ (v322 : Value).ownBlock)) (Kd.R_apart' (HO328.out) (Kd.N_typed HO323.out) Tm_) (fun k_ hk => ⟨hk.1.1, hk.2⟩))) (Kd.R_reads' (Kd.R_mono (ok' := (fun k_ => ((fun k_ => (w.heap.size ≤ k_))) k_ ∧ some k_ ≠ (v322 : Value).ownBlock)) (Kd.R_apart' (HO332.out) (Kd.N_typed HO323.out) Tm_) (fun k_ hk => ⟨hk.1.1, hk.2⟩))).2.1 (Kd.R_F (Kd.R_mono (ok' := (fun k_ => ((fun k_ => (w.heap.size ≤ k_))) k_ ∧ some k_ ≠ (v322 : Value).ownBlock)) (Kd.R_apart' (HO332.out) (Kd.N_typed HO323.out) Tm_) (fun k_ hk => ⟨hk.1.1, hk.2⟩)))))
         (case aB => exact Ta_)
         (case aF => exact (fun k_ hk => (Nat.le_trans (na_ Ta_) hk)))
         (case aO => exact (by (with_reducible repeat (first | apply Kd.N_alloc | apply Kd.N_drewN | apply Kd.N_drew)); exact Kd.N_mono HO323.out (fun _ hk => hk.1.1)))
         (case aS => exact (na_ Ta_))
         (case aL => have := LMc10.out; omega)
         intro v335 w19 ho hb hg hat; rw [← Ny334.out] at ho; have n0_ := aM_ (Kd.N_afterv (ok := (fun k_ => (w.heap.size ≤ k_) ∧ some k_ ≠ (.slice Ao20 t326.length co20 : Value).ownBlock ∧ some k_ ≠ (.slice Ao21 t330.length co21 : Value).ownBlock)) (by (with_reducible repeat (first | apply Kd.N_alloc | apply Kd.N_drewN | apply Kd.N_drew)); exact Kd.N_mono HO_5.out (fun _ hk => ⟨⟨hk.1.1.1, ⟨hk.1.2, hk.2⟩⟩, hk.1.1.2⟩)) hg hat); have n1_ := aM_ (hb); have n2_ := aM_ (ho); clear HO_5; clear HB; clear HO323; clear HO328; clear HO332; have HO_5 := n0_; have HB := n1_; have HO336 := n2_; clear n0_ n1_ n2_; clear ho hb hg hat; refine hK.out _ _ ⟨((HB.out.cell (World.block_lt_of_cell? w _ hw324_0)).trans hw324_0), ((HB.out.cell (World.block_lt_of_cell? w _ hw324_1)).trans hw324_1), ((HB.out.cell (World.block_lt_of_cell? w _ hw324_2)).trans hw324_2), ((HB.out.cell (World.block_lt_of_cell? w _ hw324_3)).trans hw324_3), ((HB.out.cell (World.block_lt_of_cell? w _ hw324_4)).trans hw324_4)⟩ (fun hHeld => ?_); clear hK K; refine nO_ ?_; refine pV_ 11 ?_; refine wd_ (yj_ HT_.out Ti_) ?_; obtain ⟨Ao22, co22, eo22⟩ := Kd.N_slice HO336.out; subst eo22
         try go_wp2_with (first | ((with_reducible refine gd_ 30 ?_); refine gL_ Tryz.func28 #[.slice Ao22 y334.length co22] ?_; (with_reducible refine (r4_Check.calls _ _ _ _ _ (by repeat (first | exact (Kd.N_reads' HO336.out).2.2 | (with_reducible refine Kd.C_alloc ?_ _) | (with_reducible refine Kd.C_drewN ?_ _) | (with_reducible refine Kd.C_drew ?_))) (by exact (Kd.N_reads' HO336.out).2.1) A11.out).mono ?_); rintro e w23 ⟨rfl, hb⟩; refine ⟨_, rfl, ?_⟩; have n0_ := aM_ (Kd.N_below Tp_ hb); have n1_ := aM_ (Kd.N_below Vo_ hb); have n2_ := aM_ (da_ Ta_ hb); clear HO_5; clear HO336; clear HB; have HO_5 := n0_; have HO336 := n1_; have HB := n2_; clear n0_ n1_ n2_; (try clear hb); (try clear hb2); (try clear hk); (try clear hi)))
         go_roundg kj2
         case measure => have := HK1.out; have := HJ2.out; omega
         case rel => exact ⟨(y334), (wrap64 (x6_1 + 1)), Tc_, H', ⟨by have := HK1.out; have := HJ2.out; omega⟩, ⟨Vo_⟩, ⟨Ta_⟩⟩
        replace c12 := Bool.eq_false_iff.mpr c12; subst c12; have H1 : (l4_Rules.l0 kj2 l0 a1 x5_1 (wrap64 (x6_1 + 1))) = some r := by rw [if_neg (show ¬ (false = true) by decide)] at H; exact H
        clear H; have H := H1; clear H1; have H' := aM_ H; clear H
        try go_wp2
        have n0_ := aM_ (Kd.N_drew HO_5.out); have n1_ := aM_ (ga_ HB.out); clear HO_5; clear HB; have HO_5 := n0_; have HB := n1_; clear n0_ n1_; have p324 : 0 ≤ (x6_1 : Int) := of_decide_eq_true Te_; have q324 : x6_1 < (l0.length : Int) := of_decide_eq_true Te_; obtain ⟨ad324, A324_3, c324_3, A324_4, c324_4, e324, hx324_0, hx324_1, hx324_2, hx324_3, hx324_4, hl324_3, hi324_3, hl324_4, hi324_4⟩ := ph_ HR0.out x6_1 p324 q324; have hw324_4 := hx324_4; have hw324_3 := hx324_3; have hw324_2 := hx324_2; have hw324_1 := hx324_1; have hw324_0 := hx324_0
        cases e324
        replace hx324_0 := (HB.out.cell (World.block_lt_of_cell? w _ hx324_0)).trans hx324_0; replace hx324_1 := (HB.out.cell (World.block_lt_of_cell? w _ hx324_1)).trans hx324_1; replace hx324_2 := (HB.out.cell (World.block_lt_of_cell? w _ hx324_2)).trans hx324_2; replace hx324_3 := (HB.out.cell (World.block_lt_of_cell? w _ hx324_3)).trans hx324_3; replace hx324_4 := (HB.out.cell (World.block_lt_of_cell? w _ hx324_4)).trans hx324_4; have HR324_3 := aM_ hi324_3; have HC324_3 := aM_ hl324_3; clear hi324_3 hl324_3; have HR324_4 := aM_ hi324_4; have HC324_4 := aM_ hl324_4; clear hi324_4 hl324_4; replace p324 := eq_true p324; replace q324 := eq_true q324; refine fd_ (n := 12) (S := fun w' => w'.cell? (ad324.add ((x6_1).toNat * 5)) = some (.int .i64 ((xa_ l0 x6_1).f0)) ∧ w'.cell? ⟨(ad324.add ((x6_1).toNat * 5)).block, (ad324.add ((x6_1).toNat * 5)).off + 1, none⟩ = some (.int .i64 ((xa_ l0 x6_1).f1)) ∧ w'.cell? ⟨(ad324.add ((x6_1).toNat * 5)).block, (ad324.add ((x6_1).toNat * 5)).off + 2, none⟩ = some (.int .i64 ((xa_ l0 x6_1).f2)) ∧ w'.cell? ⟨(ad324.add ((x6_1).toNat * 5)).block, (ad324.add ((x6_1).toNat * 5)).off + 3, none⟩ = some (.slice A324_3 ((xa_ l0 x6_1).f3).length c324_3) ∧ w'.cell? ⟨(ad324.add ((x6_1).toNat * 5)).block, (ad324.add ((x6_1).toNat * 5)).off + 4, none⟩ = some (.slice A324_4 ((xa_ l0 x6_1).f4).length c324_4)) (ds := []) (f_ 12 0) Ti_ rfl rfl ⟨((HB.out.cell (World.block_lt_of_cell? w _ hw324_0)).trans hw324_0), ((HB.out.cell (World.block_lt_of_cell? w _ hw324_1)).trans hw324_1), ((HB.out.cell (World.block_lt_of_cell? w _ hw324_2)).trans hw324_2), ((HB.out.cell (World.block_lt_of_cell? w _ hw324_3)).trans hw324_3), ((HB.out.cell (World.block_lt_of_cell? w _ hw324_4)).trans hw324_4)⟩ (fun hHeld => ?_); refine wg_ l4_Rules.tab5 l4_Rules.bits5 (fun HT_ HW_ => ?_); generalize wc.drew = w24 at HO_5 HB HR324_3 HR324_4 hx324_0 hx324_1 hx324_2 hx324_3 hx324_4 hHeld ⊢; refine pV_ 1 ?_; refine pV_ 3 ?_; refine pV_ 4 ?_; refine pV_ 5 ?_; refine pV_ 7 ?_; refine tV5_ 6 ?_; refine oN_ 0 fun K hK => ?_
        refine Kd.N_lit_step k56 _ 56 rfl (N' := 18) rfl (xs := ([] : List (S56))) (inner := []) (ok := (fun k_ => (w.heap.size ≤ k_) ∧ some k_ ≠ (u5 : Value).ownBlock)) (okp := (fun k_ => (w.heap.size ≤ k_) ∧ some k_ ≠ (u5 : Value).ownBlock)) Tx_ ?hp (fun _ hk => hk) ((show ∀ k_, w24.heap.size ≤ k_ → (fun k_ => (w.heap.size ≤ k_) ∧ some k_ ≠ (u5 : Value).ownBlock) k_ from fun k_ hk => ⟨(Nat.le_trans (na_ Ta_) hk), Kd.fresh' (Kd.N_lt Tp_) k_ hk⟩) _ (Nat.le_refl _)) (Below.refl _ _) (Nat.le_refl _) Tt_ ?_; (case hp => exact (Reps.none _ _)); intro v319 w25 ho26 hb hg_ hnew_; clear hg_ hnew_
        (first | rw [← Ny318.out] at ho26 | (simp only [Int.reduceToNat] at ho26; rw [← Ny318.out] at ho26))
        have n0_ := aM_ (Kd.N_elder' Tp_ (Kd.N_base ho26) hb); have n1_ := aM_ (Kd.N_lower ho26 (na_ Ta_)); have n2_ := aM_ (da_ Ta_ hb); clear HO_5; clear HB; have HO_5 := n0_; have HO320 := n1_; have HB := n2_; clear n0_ n1_ n2_; clear hb ho26; obtain ⟨Ao28, co28, eo28⟩ := Kd.N_slice HO_5.out
        (first | subst eo28 | (injection eo28 with f1_ f2_ f3_; have f4_ := f1_.symm; have f5_ := f3_.symm; clear f1_ f2_ f3_; subst f4_; subst f5_))
        refine hK.out _ _ ⟨((HB.out.cell (World.block_lt_of_cell? w _ hw324_0)).trans hw324_0), ((HB.out.cell (World.block_lt_of_cell? w _ hw324_1)).trans hw324_1), ((HB.out.cell (World.block_lt_of_cell? w _ hw324_2)).trans hw324_2), ((HB.out.cell (World.block_lt_of_cell? w _ hw324_3)).trans hw324_3), ((HB.out.cell (World.block_lt_of_cell? w _ hw324_4)).trans hw324_4)⟩ (fun hHeld => ?_); clear hK K; refine nO_ ?_; refine oN_ 2 fun K hK => ?_
        refine Kd.N_append_rows_step k56 (w0 := w) w.heap.size Vh_ (.tmp 18) (.tmp 19) 41 56 (.agg #[(.int .i64 0), (.slice none 0 0), (.int .i64 0), (.slice none 0 0), (.int .i64 0)]) 72 rfl Tryz.underlying41 mm_ rfl Tm_ Td_ v319 y318 x5_1 _ _ _ (fun k_ => (w.heap.size ≤ k_)) (fun k_ => ((fun k_ => (w.heap.size ≤ k_))) k_ ∧ some k_ ≠ (v319 : Value).ownBlock) rfl rfl ?aO ?aR (fun _ hk => hk) ?aF ?aB ?aS ?aL ?_
        (case aR => exact (by skip; exact Kd.N_F (Kd.N_mono (ok' := (fun k_ => ((fun k_ => (w.heap.size ≤ k_))) k_ ∧ some k_ ≠ (v319 : Value).ownBlock)) (HO_5.out) (fun k_ hk => ⟨hk.1, hk.2⟩))))
        (case aB => exact Ta_)
        (case aF => exact (fun k_ hk => (Nat.le_trans (na_ Ta_) hk)))
        (case aO => exact (by (with_reducible repeat (first | apply Kd.N_alloc | apply Kd.N_drewN | apply Kd.N_drew)); exact Kd.N_mono HO320.out (fun _ hk => hk.1)))
        (case aS => exact (na_ Ta_))
        (case aL => have := LMc6.out; omega)
        intro v322 w27 ho hb hg hat; rw [← Ny321.out] at ho; have n0_ := aM_ (Kd.N_afterv (ok := (fun k_ => (w.heap.size ≤ k_))) Tp_ hg hat); have n1_ := aM_ (hb); have n2_ := aM_ (ho); clear HO_5; clear HB; clear HO320; have HO_5 := n0_; have HB := n1_; have HO323 := n2_; clear n0_ n1_ n2_; clear ho hb hg hat; refine hK.out _ _ ⟨((HB.out.cell (World.block_lt_of_cell? w _ hw324_0)).trans hw324_0), ((HB.out.cell (World.block_lt_of_cell? w _ hw324_1)).trans hw324_1), ((HB.out.cell (World.block_lt_of_cell? w _ hw324_2)).trans hw324_2), ((HB.out.cell (World.block_lt_of_cell? w _ hw324_3)).trans hw324_3), ((HB.out.cell (World.block_lt_of_cell? w _ hw324_4)).trans hw324_4)⟩ (fun hHeld => ?_); clear hK K; refine nO_ ?_; refine oN_ 8 fun K hK => ?_
        refine gO_ Tryz.func73 #[.agg #[.int .i64 ((xa_ l0 x6_1).f0), .int .i64 ((xa_ l0 x6_1).f1), .int .i64 ((xa_ l0 x6_1).f2), .slice A324_3 ((xa_ l0 x6_1).f3).length c324_3, .slice A324_4 ((xa_ l0 x6_1).f4).length c324_4], .int .i64 a1] ?_
        with_reducible refine (l4_Raw_Make.calls _ _ _ _ _ _ _ _ _ _ _ _ _ _ _ _ _ ?side1 ?side2 ?side3 ?side4 A9.out).mono ?_
        (case side1 => repeat (first | exact (Kd.C_below HR324_3.out HB.out) | (with_reducible refine Kd.C_alloc ?_ _) | (with_reducible refine Kd.C_drewN ?_ _) | (with_reducible refine Kd.C_drew ?_)))
        (case side2 => exact HC324_3.out)
        (case side3 => repeat (first | exact (Kd.C_below HR324_4.out HB.out) | (with_reducible refine Kd.C_alloc ?_ _) | (with_reducible refine Kd.C_drewN ?_ _) | (with_reducible refine Kd.C_drew ?_)))
        (case side4 => exact HC324_4.out)
        rintro e w29 ⟨v327, v331, rfl, ho0, ho1, hb⟩; refine ⟨_, rfl, ?_⟩; have n0_ := aM_ (Kd.N_mono (Kd.N_told (Kd.N_told (Kd.N_old Tp_ hb) (Kd.R_base ho0)) (Kd.R_base ho1)) (fun _ h_ => h_.1)); have n1_ := aM_ (Kd.N_mono (Kd.N_told (Kd.N_told (Kd.N_old (by (with_reducible repeat (first | apply Kd.N_alloc | apply Kd.N_drewN | apply Kd.N_drew)); exact HO323.out) hb) (Kd.R_base ho0)) (Kd.R_base ho1)) (fun _ h_ => h_.1)); have n2_ := aM_ (Kd.R_lower (Kd.R_newM (M := fun k_ => (w.heap.size ≤ k_)) ho0 (na_ Ta_) (fun k_ h_ => h_)) (na_ Ta_)); have n3_ := aM_ (Kd.R_lower (Kd.R_newM (M := fun k_ => (w.heap.size ≤ k_)) ho1 (na_ Ta_) (fun k_ h_ => h_)) (na_ Ta_)); have n4_ := aM_ (da_ Ta_ hb); clear HO_5; clear HO323; clear HB; have HO_5 := n0_; have HO323 := n1_; have HO328 := n2_; have HO332 := n3_; have HB := n4_; clear n0_ n1_ n2_ n3_ n4_
        (try clear hb)
        (try clear hb2)
        (try clear hk)
        (try clear hi)
        (try clear ho0)
        (try clear ho1)
        obtain ⟨Ao31, co31, eo31⟩ := Kd.R_slice HO328.out
        (first | subst eo31 | (injection eo31 with f1_ f2_ f3_; have f4_ := f1_.symm; have f5_ := f3_.symm; clear f1_ f2_ f3_; subst f4_; subst f5_))
        obtain ⟨Ao32, co32, eo32⟩ := Kd.R_slice HO332.out
        (first | subst eo32 | (injection eo32 with f1_ f2_ f3_; have f4_ := f1_.symm; have f5_ := f3_.symm; clear f1_ f2_ f3_; subst f4_; subst f5_))
        refine hK.out _ _ ⟨((HB.out.cell (World.block_lt_of_cell? w _ hw324_0)).trans hw324_0), ((HB.out.cell (World.block_lt_of_cell? w _ hw324_1)).trans hw324_1), ((HB.out.cell (World.block_lt_of_cell? w _ hw324_2)).trans hw324_2), ((HB.out.cell (World.block_lt_of_cell? w _ hw324_3)).trans hw324_3), ((HB.out.cell (World.block_lt_of_cell? w _ hw324_4)).trans hw324_4)⟩ (fun hHeld => ?_); clear hK K; refine nO_ ?_; refine oN_ 9 fun K hK => ?_
        refine cd_ (w1 := ?_) (v := ?_) Vh_ rfl ?_ ?_; rotate_left 2
        ·go_simp
         constructor
         ·rfl
         rfl
        refine hK.out _ _ ⟨(World.cell?_alloc_lt _ _ _ (World.block_lt_of_cell? _ _ (((HB.out.cell (World.block_lt_of_cell? w _ hw324_0)).trans hw324_0)))).trans (((HB.out.cell (World.block_lt_of_cell? w _ hw324_0)).trans hw324_0)), (World.cell?_alloc_lt _ _ _ (World.block_lt_of_cell? _ _ (((HB.out.cell (World.block_lt_of_cell? w _ hw324_1)).trans hw324_1)))).trans (((HB.out.cell (World.block_lt_of_cell? w _ hw324_1)).trans hw324_1)), (World.cell?_alloc_lt _ _ _ (World.block_lt_of_cell? _ _ (((HB.out.cell (World.block_lt_of_cell? w _ hw324_2)).trans hw324_2)))).trans (((HB.out.cell (World.block_lt_of_cell? w _ hw324_2)).trans hw324_2)), (World.cell?_alloc_lt _ _ _ (World.block_lt_of_cell? _ _ (((HB.out.cell (World.block_lt_of_cell? w _ hw324_3)).trans hw324_3)))).trans (((HB.out.cell (World.block_lt_of_cell? w _ hw324_3)).trans hw324_3)), (World.cell?_alloc_lt _ _ _ (World.block_lt_of_cell? _ _ (((HB.out.cell (World.block_lt_of_cell? w _ hw324_4)).trans hw324_4)))).trans (((HB.out.cell (World.block_lt_of_cell? w _ hw324_4)).trans hw324_4))⟩ (fun hHeld => ?_); clear hK K; refine nO_ ?_; refine oN_ 10 fun K hK => ?_
        refine Kd.N_append_step k56 (w0 := w) w.heap.size Vh_ (.tmp 20) (.tmp 27) 41 56 (.agg #[(.int .i64 0), (.slice none 0 0), (.int .i64 0), (.slice none 0 0), (.int .i64 0)]) 72 rfl Tryz.underlying41 mm_ rfl Tm_ Td_ v322 y321 (⟨t325, t326, (⟨t329, t330⟩ : S54), t333⟩ : S56) [.int .i64 t325, .slice Ao31 t326.length co31, .int .i64 t329, .slice Ao32 t330.length co32, .int .i64 t333] (fun k_ => (w.heap.size ≤ k_)) (fun k_ => ((fun k_ => (w.heap.size ≤ k_))) k_ ∧ some k_ ≠ (v322 : Value).ownBlock) rfl rfl ?aP (fun _ hk => hk) ?aF ?aO ?aB ?aS ?aL ?_
        (case aP => exact (au_ _ _ (⟨t325, t326, (⟨t329, t330⟩ : S54), t333⟩ : S56) (Kd.R_reads' (Kd.R_mono (ok' := (fun k_ => ((fun k_ => (w.heap.size ≤ k_))) k_ ∧ some k_ ≠ (v322 : Value).ownBlock)) (Kd.R_apart' (HO328.out) (Kd.N_typed HO323.out) Tm_) (fun k_ hk => ⟨hk.1.1, hk.2⟩))).2.1 (Kd.R_F (Kd.R_mono (ok' := (fun k_ => ((fun k_ => (w.heap.size ≤ k_))) k_ ∧ some k_ ≠ (v322 : Value).ownBlock)) (Kd.R_apart' (HO328.out) (Kd.N_typed HO323.out) Tm_) (fun k_ hk => ⟨hk.1.1, hk.2⟩))) (Kd.R_reads' (Kd.R_mono (ok' := (fun k_ => ((fun k_ => (w.heap.size ≤ k_))) k_ ∧ some k_ ≠ (v322 : Value).ownBlock)) (Kd.R_apart' (HO332.out) (Kd.N_typed HO323.out) Tm_) (fun k_ hk => ⟨hk.1.1, hk.2⟩))).2.1 (Kd.R_F (Kd.R_mono (ok' := (fun k_ => ((fun k_ => (w.heap.size ≤ k_))) k_ ∧ some k_ ≠ (v322 : Value).ownBlock)) (Kd.R_apart' (HO332.out) (Kd.N_typed HO323.out) Tm_) (fun k_ hk => ⟨hk.1.1, hk.2⟩)))))
        (case aB => exact Ta_)
        (case aF => exact (fun k_ hk => (Nat.le_trans (na_ Ta_) hk)))
        (case aO => exact (by (with_reducible repeat (first | apply Kd.N_alloc | apply Kd.N_drewN | apply Kd.N_drew)); exact Kd.N_mono HO323.out (fun _ hk => hk.1.1)))
        (case aS => exact (na_ Ta_))
        (case aL => have := LMc10.out; omega)
        intro v335 w30 ho hb hg hat; rw [← Ny334.out] at ho; have n0_ := aM_ (Kd.N_afterv (ok := (fun k_ => (w.heap.size ≤ k_) ∧ some k_ ≠ (.slice Ao31 t326.length co31 : Value).ownBlock ∧ some k_ ≠ (.slice Ao32 t330.length co32 : Value).ownBlock)) (by (with_reducible repeat (first | apply Kd.N_alloc | apply Kd.N_drewN | apply Kd.N_drew)); exact Kd.N_mono HO_5.out (fun _ hk => ⟨⟨hk.1.1.1, ⟨hk.1.2, hk.2⟩⟩, hk.1.1.2⟩)) hg hat); have n1_ := aM_ (hb); have n2_ := aM_ (ho); clear HO_5; clear HB; clear HO323; clear HO328; clear HO332; have HO_5 := n0_; have HB := n1_; have HO336 := n2_; clear n0_ n1_ n2_; clear ho hb hg hat; refine hK.out _ _ ⟨((HB.out.cell (World.block_lt_of_cell? w _ hw324_0)).trans hw324_0), ((HB.out.cell (World.block_lt_of_cell? w _ hw324_1)).trans hw324_1), ((HB.out.cell (World.block_lt_of_cell? w _ hw324_2)).trans hw324_2), ((HB.out.cell (World.block_lt_of_cell? w _ hw324_3)).trans hw324_3), ((HB.out.cell (World.block_lt_of_cell? w _ hw324_4)).trans hw324_4)⟩ (fun hHeld => ?_); clear hK K; refine nO_ ?_; refine pV_ 11 ?_; refine wd_ (yj_ HT_.out Ti_) ?_; obtain ⟨Ao33, co33, eo33⟩ := Kd.N_slice HO336.out; subst eo33
        try go_wp2_with (first | ((with_reducible refine gd_ 30 ?_); refine gL_ Tryz.func28 #[.slice Ao33 y334.length co33] ?_; (with_reducible refine (r4_Check.calls _ _ _ _ _ (by repeat (first | exact (Kd.N_reads' HO336.out).2.2 | (with_reducible refine Kd.C_alloc ?_ _) | (with_reducible refine Kd.C_drewN ?_ _) | (with_reducible refine Kd.C_drew ?_))) (by exact (Kd.N_reads' HO336.out).2.1) A11.out).mono ?_); rintro e w34 ⟨rfl, hb⟩; refine ⟨_, rfl, ?_⟩; have n0_ := aM_ (Kd.N_below Tp_ hb); have n1_ := aM_ (Kd.N_below Vo_ hb); have n2_ := aM_ (da_ Ta_ hb); clear HO_5; clear HO336; clear HB; have HO_5 := n0_; have HO336 := n1_; have HB := n2_; clear n0_ n1_ n2_; (try clear hb); (try clear hb2); (try clear hk); (try clear hi)))
        go_roundg kj2
        case measure => have := HK1.out; have := HJ2.out; omega
        case rel => exact ⟨(x5_1), (wrap64 (x6_1 + 1)), Tc_, H', ⟨by have := HK1.out; have := HJ2.out; omega⟩, ⟨by (with_reducible repeat (first | apply Kd.N_alloc | apply Kd.N_drewN | apply Kd.N_drew)); exact Kd.N_mono HO_5.out (fun _ hk => hk.1.1)⟩, ⟨Ta_⟩⟩
       rw [if_neg c10] at H; exact absurd H Tt_
      rw [if_neg c8] at H; exact absurd H Tt_
     rw [if_neg c7] at H; exact absurd H Tt_
    rw [if_neg c6] at H; exact absurd H Tt_
   replace c5 := Bool.eq_false_iff.mpr c5; subst c5; have H1 : (some x5_1) = some r := by rw [if_neg (show ¬ (false = true) by decide)] at H; exact H
   clear H; have H := H1; clear H1; obtain rfl := Option.some.inj H
   go_wp2
   go_ret
   exact ⟨_, Tl_, Tp_, Ta_⟩
end Go.Proofs.YtiocgaekoeekgaaGreat.P
end
