/- Parents are ahead: a chain of up to ten languages is right and is resolved whole, each with what is ahead. Part 5: contracts of the functions that the law reaches, and words for them. -/
import Derived.Test.YtiocgaekoeekgaaGreatMBP4
section
namespace Go.Proofs.YtiocgaekoeekgaaGreat.Pure
open Go.RowKit Go.Proofs.YtiocgaekoeekgaaGreat.P Go.Proofs.YtiocgaekoeekgaaGreatW.PrintWords Go.Proofs.YtiocgaekoeekgaaGreatW.PrintLast
theorem within5_rem (a n : Int) (hn : 0 < n) (hn2 : n ≤ 4611686018427387904) : l5_within.f a n = some (a % n) := by
 unfold l5_within.f
 have h1 := Int.emod_nonneg a (by omega : n ≠ 0)
 have h2 := Int.emod_lt_of_pos a hn
 have h4 : (n.natAbs : Int) = n := by omega
 rw [if_neg (by omega)]
 have h3 := @Int.tmod_eq_emod a n
 by_cases hd : 0 ≤ a ∨ n ∣ a
 ·rw [if_pos hd] at h3
  rw [if_neg (by omega), h3]
  congr 1
  omega
 ·rw [if_neg hd, h4] at h3
  rw [if_pos (by omega), h3]
  congr 1
  unfold wrap64
  omega
theorem parents_alike {a b : Int} (h : l5_within.f a 3 = l5_within.f b 3) : ∀ k, (∀ x5 x6 x7, l5_BlobParents.l0 k a x5 x6 x7 = l5_BlobParents.l0 k b x5 x6 x7) ∧ (∀ x5 x c0 c1 c2 c3 c4 c5, l5_BlobParents.j1 k a x5 x c0 c1 c2 c3 c4 c5 = l5_BlobParents.j1 k b x5 x c0 c1 c2 c3 c4 c5) ∧ (∀ x5 x c0 c1 c2 c3 c4 c5, l5_BlobParents.l1 k a x5 x c0 c1 c2 c3 c4 c5 = l5_BlobParents.l1 k b x5 x c0 c1 c2 c3 c4 c5) := by
 intro k
 induction k with
 | zero => exact ⟨fun _ _ _ => by simp only [l5_BlobParents.l0], fun _ _ _ _ _ _ _ _ => by simp only [l5_BlobParents.j1], fun _ _ _ _ _ _ _ _ => by simp only [l5_BlobParents.l1]⟩
 | succ k ih =>
  obtain ⟨i0, i1, i2⟩ := ih
  refine ⟨fun _ _ _ => ?_, fun _ _ _ _ _ _ _ _ => ?_, fun _ _ _ _ _ _ _ _ => ?_⟩
  ·simp only [l5_BlobParents.l0, h, i0, i1]
  ·simp only [l5_BlobParents.j1, i2]
  ·simp only [l5_BlobParents.l1, h, i2]
theorem parents_all : ∀ t : Fin 12, ∀ s : Fin 3, l5_BlobParents.l0 40 ((s : Nat) : Int) (wrap64 (1 + ((t : Nat) : Int))) [] 0 = some true := by decide +kernel
theorem BlobParents : l5_BlobParents.Pure := by
 intro a0 a1 w0 w1
 refine ⟨40, ?_⟩
 have h1 := Int.emod_nonneg a0 (by omega : (12 : Int) ≠ 0)
 have h2 := Int.emod_lt_of_pos a0 (by omega : (0 : Int) < 12)
 have h3 := Int.emod_nonneg a1 (by omega : (3 : Int) ≠ 0)
 have h4 := Int.emod_lt_of_pos a1 (by omega : (0 : Int) < 3)
 obtain ⟨t, ht⟩ : ∃ t : Nat, a0 % 12 = (t : Int) := ⟨(a0 % 12).toNat, by omega⟩
 obtain ⟨s, hs⟩ : ∃ s : Nat, a1 % 3 = (s : Int) := ⟨(a1 % 3).toNat, by omega⟩
 have hw : l5_within.f a1 3 = l5_within.f (s : Int) 3 := by
  rw [within5_rem a1 3 (by omega) (by omega), within5_rem (s : Int) 3 (by omega) (by omega), ← hs, Int.emod_emod_of_dvd a1 (Int.dvd_refl 3)]
 have hall := parents_all ⟨t, by omega⟩ ⟨s, by omega⟩
 unfold l5_BlobParents.f
 show (some true).bind _ = some true
 rw [Option.bind_some, if_pos rfl, within5_rem a0 12 (by omega) (by omega), Option.bind_some, ht, ((parents_alike hw) 40).1]
 exact hall
end Go.Proofs.YtiocgaekoeekgaaGreat.Pure
end
