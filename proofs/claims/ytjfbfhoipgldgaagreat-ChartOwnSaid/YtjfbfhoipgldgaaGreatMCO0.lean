/- Spans that were told may be overwritten: told again they are alike; rules and signs are not changed. Part 0: contracts of the functions that the law reaches, and words for them. -/
import Derived.Below
import Derived.Deep.Draws
import Derived.Deep.AppendLies
import Derived.Maps.AppendAt
import Derived.OwnWalk
import Derived.Laws.BytesArg
import Derived.Laws.MakeOwn
import Derived.Laws.OwnMore
import Derived.Deep.OwnRows
import Derived.Tactics
import Derived.Lib.ConvBytes
import Derived.Laws.Slices
import Derived.WalkKit
import Derived.KernelRfl
import Derived.RowKit3
import Derived.Deep.LoopGhost
import Derived.Deep.QuietTactic
import Derived.BigQuiet
import Derived.WideLaws
import Derived.Deep.DeepCutAuto
import Derived.Deep.CutBlock
import Derived.Deep.RegionHeld3
import Derived.Laws.Rows
import Derived.Lib.AppendStr
import Derived.ArgAppend
import Derived.Laws.IdiomCopy
import Derived.RowKit
import Derived.OrdersHeld
import Derived.Laws.BitsLemmas
import Derived.Laws.StructEq
namespace Go.Proofs.YtjfbfhoipgldgaaGreatW.PrintWords
def f_ (n k : Nat) : Array Bool := (List.replicate k true ++ List.replicate (n - k) false).toArray
theorem s1_ {α : Type _} {l : List α} {i : Nat} {a : α} : l.toArray.setIfInBounds i a = (l.set i a).toArray := List.setIfInBounds_toArray ..
theorem s2_ {α : Type _} {x : α} {xs : List α} {a : α} : (x :: xs).set 0 a = a :: xs := rfl
theorem s3_ {α : Type _} {x : α} {xs : List α} {n : Nat} {a : α} : (x :: xs).set (n + 1) a = x :: xs.set n a := rfl
end Go.Proofs.YtjfbfhoipgldgaaGreatW.PrintWords
section
set_option linter.unusedVariables false
set_option linter.unusedSimpArgs false
namespace Go.Proofs.YtjfbfhoipgldgaaGreatW.PrintWords
open Go.RowKit
structure Aside0 (p : Prop) : Prop where mk :: (out : p)
structure Drawn0 (w w' : World) : Prop where mk :: (out : ∃ n, w' = w.drewN n)
theorem Drawn0.refl (w : World) : Drawn0 w w := ⟨⟨0, rfl⟩⟩
theorem Drawn0.step {w w' : World} (h : Drawn0 w w') (n : Nat) : Drawn0 w (w'.drewN n) := by
 obtain ⟨m, rfl⟩ := h
 exact ⟨⟨m + n, World.drewN_drewN ..⟩⟩
def rd (xs : List Int) (i : Int) : Int := xs.getD i.toNat 0
theorem ba_ {w W : World} (h : Below w.heap.size w W) (o : Obj) : Below w.heap.size w (W.alloc o) := h.alloc h.size o
theorem yb_ {B : Nat} {w W : World} (h : Below B w W) : Below B w W.drew := ⟨h.os, h.tape, h.output, h.size, h.block⟩
theorem aa_ {B : Nat} {w W : World} (h : Below B w W) (n : Nat) : Below B w (W.drewN n) := ⟨h.os, h.tape, h.output, h.size, h.block⟩
theorem of_ {B : Nat} {w w1 w2 : World} (h : Below B w w1) (hB : B ≤ w1.heap.size) (k : Below w1.heap.size w1 w2) : Below B w w2 :=
 h.trans ⟨k.os, k.tape, k.output, k.size, fun i hi => k.block i (Nat.lt_of_lt_of_le hi hB)⟩
theorem fb_ {w w1 : World} (h : Below w.heap.size w w1) {a : Addr} {v : Value} (hc : w.cell? a = some v) : w1.cell? a = some v := (h.cell (World.block_lt_of_cell? w a hc)).trans hc
theorem hw_ (g j : Nat) : (⟨g, 0, none⟩ : Addr).add j = ⟨g, j, none⟩ := by unfold Addr.add; split <;> simp_all
theorem own_nil (W : World) (base : Nat) (e : TypeId) (size : Nat) : W.ownsRow base e size (.slice none 0 0) 0 [] := ⟨by simp, .inl ⟨rfl, rfl⟩⟩
theorem me_ {w : World} {base : Nat} {e : TypeId} {size n : Nat} {v : Value} {xs : List Value} (h : w.ownsRow base e size v n xs) (k : Nat) (hk : v.ownBlock = some k) : base ≤ k := by
 rcases h.2 with ⟨rfl, _⟩ | ⟨g, cap, cur, rfl, hb, _⟩
 ·simp [Value.ownBlock] at hk
 have : g = k := by simpa [Value.ownBlock] using hk
 omega
theorem own_lt {w : World} {base : Nat} {e : TypeId} {size n : Nat} {v : Value} {xs : List Value} (h : w.ownsRow base e size v n xs) (k : Nat) (hk : v.ownBlock = some k) : k < w.heap.size := by
 rcases h.2 with ⟨rfl, _⟩ | ⟨g, cap, cur, rfl, hb, hh, _⟩
 ·simp [Value.ownBlock] at hk
 have : g = k := by simpa [Value.ownBlock] using hk
 subst this
 exact (Array.getElem?_eq_some_iff.1 hh).1
section
variable {P : Program} {ops : Array Oper} {rest : List Oper} {o : Oper} {a : Act} {Q : Exit → Act → World → Prop}
end
section
variable {P : Program}
theorem qs_ (t e : TypeId) (k : IntKind) (bytes : Nat) (ht : P.underlying t = some (.slice e)) (hinfo : (P.info? e).map (fun i => (i.zero, i.size, i.bytes)) = some (some (.int k 0), 1, bytes)) (hb0 : 0 < bytes)
  (m : Nat) (hn : m * bytes ≤ 281474976710656) :
  ∀ W : World, (Instr.makeSlice t (.int .i64 (m : Int)) (.int .i64 (m : Int))).run P W = .ok (.slice (some ⟨W.heap.size, 0, none⟩) m m) (W.alloc (.cells (madeCells #[.int k 0] m) e)) := by
 intro W
 have hm : m ≤ 281474976710656 := Nat.le_trans (Nat.le_mul_of_pos_right _ hb0) hn
 exact run_make_row' t e (.int k 0) bytes ht hinfo rfl .i64 .i64 m (by rw [Nat.mul_comm]; exact hn) (by omega) W
end
section
variable {P : Program} {ops : Array Oper} {rest : List Oper} {o : Oper} {a : Act} {Q : Exit → Act → World → Prop}
end
def LeO {α : Type} (a b : Option α) : Prop := ∀ r, a = some r → b = some r
theorem LeO.refl {α : Type} (a : Option α) : LeO a a := fun _ h => h
theorem LeO.none {α : Type} (b : Option α) : LeO Option.none b := fun _ h => by cases h
theorem LeO.trans {α : Type} {a b c : Option α} (h : LeO a b) (k : LeO b c) : LeO a c := fun r hr => k r (h r hr)
theorem LeO.ite {α : Type} {c : Prop} [Decidable c] {a a' b b' : Option α} (h : LeO a a') (k : LeO b b') : LeO (if c then a else b) (if c then a' else b') := by
 split
 ·exact h
 exact k
theorem LeO.bind {α β : Type} {a a' : Option α} {f f' : α → Option β} (h : LeO a a') (k : ∀ x, LeO (f x) (f' x)) : LeO (a.bind f) (a'.bind f') := by
 intro r hr
 obtain ⟨x, hx, hf⟩ := Option.bind_eq_some_iff.1 hr
 exact Option.bind_eq_some_iff.2 ⟨x, h x hx, k x r hf⟩
theorem LeO.map {α β : Type} {a a' : Option α} (f : α → β) (h : LeO a a') : LeO (a.map f) (a'.map f) := by
 intro r hr
 obtain ⟨x, hx, hf⟩ := Option.map_eq_some_iff.1 hr
 exact Option.map_eq_some_iff.2 ⟨x, h x hx, hf⟩
def Reps {α : Type} (R : α → List Value → Prop) (size : Nat) (ps : List α) (cs : List Value) : Prop :=
 cs.length = ps.length * size ∧ ∀ j p, ps[j]? = some p → R p ((cs.drop (j * size)).take size)
theorem Reps.none {α : Type} (R : α → List Value → Prop) (size : Nat) : Reps R size [] [] := ⟨by simp, fun j p h => by simp at h⟩
theorem Reps.snoc {α : Type} {R : α → List Value → Prop} {size : Nat} {ps : List α} {cs c : List Value} {p : α} (h : Reps R size ps cs) (hp : R p c) (hc : c.length = size) : Reps R size (ps ++ [p]) (cs ++ c) := by
 refine ⟨by rw [List.length_append, h.1, hc, List.length_append, List.length_singleton, Nat.add_mul, Nat.one_mul], fun j q hq => ?_⟩
 rcases Nat.lt_or_ge j ps.length with hj | hj
 ·rw [List.getElem?_append_left hj] at hq
  have h1 : j * size + size ≤ cs.length := by rw [h.1, ← Nat.succ_mul]; exact Nat.mul_le_mul_right _ hj
  have h2 := h.2 j q hq
  rw [List.drop_append_of_le_length (by omega), List.take_append_of_le_length (by rw [List.length_drop]; omega)]
  exact h2
 have hj' : j = ps.length := by
  have := (List.getElem?_eq_some_iff.1 hq).1
  rw [List.length_append, List.length_singleton] at this
  omega
 subst hj'
 have hq' : p = q := by simpa using hq
 subst hq'
 rw [← h.1, List.drop_left, ← hc, List.take_length]
 exact hp
theorem Reps.imp_ {α : Type} {R R' : α → List Value → Prop} {size : Nat} {ps : List α} {cs : List Value} (h : Reps R size ps cs) (hR : ∀ p c, R p c → R' p c) : Reps R' size ps cs := ⟨h.1, fun j p hj => hR _ _ (h.2 j p hj)⟩
def ReadsRow {α : Type} (R : α → List Value → Prop) (size : Nat) (w : World) (A : Option Addr) (n : Nat) (ps : List α) : Prop :=
 ps.length = n ∧ n ≤ 9223372036854775807 ∧ (0 < n → ∃ ad, A = some ad ∧ ∀ j p, ps[j]? = some p → ∃ c, c.length = size ∧ R p c ∧ ∀ i u, c[i]? = some u → w.cell? (ad.add (j * size + i)) = some u)
theorem ReadsRow.get_ {α : Type} {R : α → List Value → Prop} {size : Nat} {w : World} {A : Option Addr} {n : Nat} {ps : List α} (h : ReadsRow R size w A n ps) (d : α) (i : Int) (h0 : 0 ≤ i) (h1 : i < n) :
  ∃ ad c, A = some ad ∧ c.length = size ∧ R (ps.getD i.toNat d) c ∧ ∀ j u, c[j]? = some u → w.cell? (ad.add (i.toNat * size + j)) = some u := by
 obtain ⟨ad, e, hc⟩ := h.2.2 (by omega)
 have hl : i.toNat < ps.length := by have := h.1; omega
 obtain ⟨c, hs, hr, hcell⟩ := hc i.toNat _ (List.getElem?_eq_getElem hl)
 refine ⟨ad, c, e, hs, ?_, hcell⟩
 rw [List.getD_eq_getElem?_getD, List.getElem?_eq_getElem hl]
 exact hr
theorem ReadsRow.imp_ {α : Type} {R R' : α → List Value → Prop} {size : Nat} {w w1 : World} {A : Option Addr} {n : Nat} {ps : List α} (h : ReadsRow R size w A n ps) (hb : Below w.heap.size w w1) (hR : ∀ p c, R p c → R' p c) : ReadsRow R' size w1 A n ps :=
 ⟨h.1, h.2.1, fun hn => by
  obtain ⟨ad, e, hc⟩ := h.2.2 hn
  refine ⟨ad, e, fun j p hj => ?_⟩
  obtain ⟨c, hs, hr, hcell⟩ := hc j p hj
  exact ⟨c, hs, hR _ _ hr, fun i u hu => fb_ hb (hcell i u hu)⟩⟩
theorem jn_ {α : Type} {R : α → List Value → Prop} {w : World} {base n size : Nat} {e : TypeId} {v : Value} {ps : List α} {cs : List Value} (h : w.ownsRow base e size v n cs) (hR : Reps R size ps cs) (hn : ps.length = n) :
  ∃ A c, v = .slice A n c ∧ ReadsRow R size w A n ps := by
 rcases Nat.eq_zero_or_pos n with h0 | h0
 ·rcases h.2 with ⟨rfl, rfl⟩ | ⟨g, cap, cur, rfl, _⟩
  ·exact ⟨none, 0, rfl, hn, by omega, fun hp => absurd hp (by omega)⟩
  exact ⟨_, cap, rfl, hn, by omega, fun hp => absurd hp (by omega)⟩
 obtain ⟨g, cap, rfl, _, _⟩ := h.form h0
 have hm : n ≤ 9223372036854775807 := by
  rcases h.2 with ⟨_, h1⟩ | ⟨g', cap', cur, he, _, _, h1, h2, _⟩
  ·omega
  simp only [maxLen] at h2
  omega
 refine ⟨_, cap, rfl, hn, hm, fun _ => ⟨_, rfl, fun j p hj => ⟨(cs.drop (j * size)).take size, ?_, hR.2 j p hj, fun i u hu => ?_⟩⟩⟩
 ·have hjl := (List.getElem?_eq_some_iff.1 hj).1
  have h1 : j * size + size ≤ cs.length := by rw [hR.1, ← Nat.succ_mul]; exact Nat.mul_le_mul_right _ hjl
  rw [List.length_take, List.length_drop]
  omega
 refine h.cells (g := g) rfl _ u ?_
 rw [List.getElem?_take] at hu
 split at hu
 ·rw [List.getElem?_drop] at hu
  exact hu
 cases hu
theorem oc_ (ad : Addr) (m j : Nat) (hj : 0 < j) : ad.add (m + j) = ⟨(ad.add m).block, (ad.add m).off + j, none⟩ := by
 unfold Addr.add
 by_cases hm : m = 0
 ·subst hm
  simp [Nat.ne_of_gt hj]
 simp [hm, Nat.add_assoc]
section
variable {P : Program} {ops : Array Oper} {rest : List Oper} {o : Oper} {a : Act} {Q : Exit → Act → World → Prop}
theorem oi_ {w0 W : World} (base : Nat) (hgd : o.guard = none) (s x : Operand) (t e : TypeId) (z : Value) (size bytes : Nat)
  (ho : o.op = .call { callee := .builtin .append, args := #[s, x], argTypes := #[t, t] })
  (ht : P.underlying t = some (.slice e)) (hinfo : (P.info? e).map (fun i => (i.zero, i.size, i.bytes)) = some (some z, size, bytes)) (hz : z.cells.size = size) (hs0 : 0 < size) (hb0 : 0 < bytes)
  (v : Value) (n : Nat) (xs ys : List Value) (hs : a.eval s = v) (hx : a.eval x = .slice (some ⟨W.heap.size, 0, none⟩) 1 1) (hys : ys.length = size) (h1 : ∀ u ∈ ys, u.oneCell' = true)
  (HO : W.ownsRow base e size v n xs) (HB : Below base w0 W) (hbase : base ≤ W.heap.size) (hl : (n + 1) * bytes ≤ 140737488355328)
  (h : ∀ v1 w1, w1.ownsRow base e size v1 (n + 1) (xs ++ ys) → Below base w0 w1 → W.grownBy w1 v.ownBlock → (v1.ownBlock = v.ownBlock ∨ ∃ b, v1.ownBlock = some b ∧ W.heap.size ≤ b) → wpList P ops Q rest (a.put o.dst v1) w1) :
  wpList P ops Q (o :: rest) a (W.alloc (.cells ys.toArray e)) := by
 obtain ⟨i0, hi, hzz⟩ := Option.map_eq_some_iff.1 hinfo
 simp only [Prod.mk.injEq] at hzz
 obtain ⟨hz0, hz1, hz2⟩ := hzz
 have hlen : n + 1 ≤ 140737488355328 := Nat.le_trans (Nat.le_mul_of_pos_right _ hb0) hl
 refine wpList_append_own_at (W.alloc (.cells ys.toArray e)) hgd s x t ho base e i0 z size bytes ht hi hz0 hz1 hz2 hz hs0 v n xs hs (HO.alloc _) ⟨W.heap.size, 0, none⟩ 1 1 ys hx (by rw [hys]; simp)
  (by simpa using World.news_of_block (cs := ys.toArray) (t := e) (fr := (0, 0)) (heap_alloc_new W (.cells ys.toArray e))) h1 (by simp only [maxLen]; omega) hl (by simp; omega) ?_
 intro v1 w1 hown hg _ hat
 refine h v1 w1 hown ((HB.alloc hbase _).grown hg (by simp; omega) (me_ HO)) (World.grownBy.trans (World.grownBy_alloc W _ _) hg) ?_
 rcases hat with hat | hat
 ·exact .inl hat
 exact .inr ⟨_, hat, by simp⟩
end
theorem own_ne {w : World} {base : Nat} {e t : TypeId} {size n g : Nat} {v : Value} {xs : List Value} {cs : Array Value} (h : w.ownsRow base e size v n xs) (hg : w.heap[g]? = some (.cells cs t (0, 0))) (hne : e ≠ t) : some g ≠ v.ownBlock := by
 rcases h.2 with ⟨rfl, _⟩ | ⟨g', cap, cur, rfl, _, hh, _⟩
 ·simp [Value.ownBlock]
 intro he
 have : g = g' := by simpa [Value.ownBlock] using he
 subst this
 rw [hg] at hh
 injection hh with hh
 injection hh with _ ht
 exact hne ht.symm
theorem xf_ {w : World} {g : Nat} {t : TypeId} {cs : Array Value} (h : w.heap[g]? = some (.cells cs t (0, 0))) (i : Nat) (u : Value) : (w.setCell ⟨g, i, none⟩ u).heap[g]? = some (.cells (cs.setIfInBounds i u) t (0, 0)) := by
 simp [World.setCell, Array.getElem?_modify, h]
theorem mc_ {w : World} {g : Nat} {t : TypeId} {cs : Array Value} (h : w.heap[g]? = some (.cells cs t (0, 0))) {p : Addr} (hp : g ≠ p.block) (u : Value) : (w.setCell p u).heap[g]? = some (.cells cs t (0, 0)) := (Below.heap_setCell w p u g hp).trans h
theorem kc_ {w : World} {g : Nat} {o : Obj} (h : w.heap[g]? = some o) : g < w.heap.size := (Array.getElem?_eq_some_iff.1 h).1
theorem ca_ {w : World} {g : Nat} {t : TypeId} {cs : Array Value} (h : w.heap[g]? = some (.cells cs t (0, 0))) (i : Nat) : w.cell? ⟨g, i, none⟩ = cs[i]? := cell_of_row w g i cs t (0, 0) h
theorem fa_ {w : World} {g : Nat} {t : TypeId} {cs : Array Value} (h : w.heap[g]? = some (.cells cs t (0, 0))) (i : Nat) : w.frozen? ⟨g, i, none⟩ = false := by simp [World.frozen?, h]
theorem xa_ {w w1 : World} {g : Nat} {o : Obj} {row : Option Nat} (h : w.heap[g]? = some o) (hg : w.grownBy w1 row) (hne : some g ≠ row) : w1.heap[g]? = some o := (hg.block g (kc_ h) hne).trans h
section
variable {P : Program} {ops : Array Oper} {o : Oper} {a : Act} {Q : Exit → Act → World → Prop} {K : Act → World → Prop}
theorem vi_ {w0 W : World} (base : Nat) (hw : Region.wanted o (yielded ops a.tmps) = true) (s x : Operand) (t e : TypeId) (z : Value) (size bytes : Nat)
  (ho : o.op = .call { callee := .builtin .append, args := #[s, x], argTypes := #[t, t] })
  (ht : P.underlying t = some (.slice e)) (hinfo : (P.info? e).map (fun i => (i.zero, i.size, i.bytes)) = some (some z, size, bytes)) (hz : z.cells.size = size) (hs0 : 0 < size) (hb0 : 0 < bytes)
  (v : Value) (n : Nat) (xs ys : List Value) (hs : a.eval s = v) (hx : a.eval x = .slice (some ⟨W.heap.size, 0, none⟩) 1 1) (hys : ys.length = size) (h1 : ∀ u ∈ ys, u.oneCell' = true)
  (HO : W.ownsRow base e size v n xs) (HB : Below base w0 W) (hbase : base ≤ W.heap.size) (hl : (n + 1) * bytes ≤ 140737488355328)
  (h : ∀ v1 w1, w1.ownsRow base e size v1 (n + 1) (xs ++ ys) → Below base w0 w1 → W.grownBy w1 v.ownBlock → (v1.ownBlock = v.ownBlock ∨ ∃ b, v1.ownBlock = some b ∧ W.heap.size ≤ b) → K (a.put o.dst v1) w1) :
  if Region.wanted o (yielded ops a.tmps) = true then Oper.wp P o a (W.alloc (.cells ys.toArray e)) K Q else K (a.put o.dst undef) (W.alloc (.cells ys.toArray e)) := by
 obtain ⟨i0, hi, hzz⟩ := Option.map_eq_some_iff.1 hinfo
 simp only [Prod.mk.injEq] at hzz
 obtain ⟨hz0, hz1, hz2⟩ := hzz
 have hlen : n + 1 ≤ 140737488355328 := Nat.le_trans (Nat.le_mul_of_pos_right _ hb0) hl
 rw [if_pos hw]
 obtain ⟨v1, w1, hr, hown, hg, _, hat⟩ := run_append_own_at (P := P) (W.alloc (.cells ys.toArray e)) base t o.type e i0 z size bytes ht hi hz0 hz1 hz2 hz hs0 v n xs (HO.alloc _) ⟨W.heap.size, 0, none⟩ 1 1 ys (by rw [hys]; simp)
  (by simpa using World.news_of_block (cs := ys.toArray) (t := e) (fr := (0, 0)) (heap_alloc_new W (.cells ys.toArray e))) h1 (by simp only [maxLen]; omega) hl (by simp; omega)
 unfold Oper.wp execOp
 simp only [ho, resolve, invoke, builtin, Sem.run_bind, Sem.run_pure, Result.andThen_ok, List.map_toArray, List.map_cons, List.map_nil, hs, hx, hr]
 refine h v1 w1 hown ((HB.alloc hbase _).grown hg (by simp; omega) (me_ HO)) (World.grownBy.trans (World.grownBy_alloc W _ _) hg) ?_
 rcases hat with hat | hat
 ·exact .inl hat
 exact .inr ⟨_, hat, by simp⟩
end
theorem ss_ {w : World} {base base' : Nat} {e : TypeId} {size n : Nat} {v : Value} {xs : List Value} (h : w.ownsRow base e size v n xs) (hb : base' ≤ base) : w.ownsRow base' e size v n xs := by
 obtain ⟨h1, h2⟩ := h
 refine ⟨h1, ?_⟩
 rcases h2 with h2 | ⟨g, cap, cur, rfl, hg, r⟩
 ·exact .inl h2
 exact .inr ⟨g, cap, cur, rfl, Nat.le_trans hb hg, r⟩
section
variable {α : Type} {enc : α → Value} {d : α}
def encs (enc : α → Value) (xs : List α) : List Value := xs.map enc
def rdOf (d : α) (xs : List α) (i : Int) : α := xs.getD i.toNat d
theorem vk_ (xs : List α) : (encs enc xs).length = xs.length := by simp [encs]
theorem encs_get (xs : List α) (j : Nat) (h : j < xs.length) : (encs enc xs)[j]? = some (enc (xs.getD j d)) := by
 simp [encs, List.getElem?_eq_getElem h, List.getD_eq_getElem?_getD]
def ReadsOf (enc : α → Value) (d : α) (w : World) (A : Option Addr) (n : Nat) (xs : List α) : Prop :=
 xs.length = n ∧ n ≤ 9223372036854775807 ∧ (0 < n → ∃ ad, A = some ad ∧ ∀ j, j < n → w.cell? (ad.add j) = some (enc (xs.getD j d)))
theorem ReadsOf.at_ {w : World} {A : Option Addr} {n : Nat} {xs : List α} (h : ReadsOf enc d w A n xs) (i : Int) (h0 : 0 ≤ i) (h1 : i < n) : ∃ ad, A = some ad ∧ w.cell? (ad.add i.toNat) = some (enc (rdOf d xs i)) := by
 obtain ⟨ad, e, hc⟩ := h.2.2 (by omega)
 exact ⟨ad, e, hc _ (by omega)⟩
theorem ReadsOf.take_ {w : World} {A : Option Addr} {n : Nat} {xs : List α} (h : ReadsOf enc d w A n xs) (i : Nat) (hi : i ≤ n) : ReadsOf enc d w A i (xs.take i) := by
 refine ⟨by rw [List.length_take, h.1]; omega, by have := h.2.1; omega, fun hp => ?_⟩
 obtain ⟨ad, e, hc⟩ := h.2.2 (by omega)
 refine ⟨ad, e, fun j hj => ?_⟩
 rw [hc j (by omega)]
 simp [List.getD_eq_getElem?_getD, hj]
theorem ReadsOf.drop_ {w : World} {A : Option Addr} {n c : Nat} {xs : List α} (h : ReadsOf enc d w A n xs) (i : Nat) (hi : i ≤ n) (hc : n ≤ c) : ReadsOf enc d w (if c = i then A else A.map (·.add i)) (n - i) (xs.drop i) := by
 refine ⟨by rw [List.length_drop, h.1], by have := h.2.1; omega, fun hp => ?_⟩
 obtain ⟨ad, rfl, hcell⟩ := h.2.2 (by omega)
 rw [if_neg (by omega)]
 refine ⟨ad.add i, rfl, fun j hj => ?_⟩
 have ha : (ad.add i).add j = ad.add (i + j) := by
  unfold Addr.add
  by_cases h1 : i = 0 <;> by_cases h2 : j = 0 <;> simp [h1, h2, Nat.add_assoc]
 rw [ha, hcell (i + j) (by omega)]
 simp [List.getD_eq_getElem?_getD, List.getElem?_drop]
theorem zo_ {P : Program} (enc : α → Value) (d : α) (t e : TypeId) (kl : IntKind) {i : TypeInfo} (ht : P.underlying t = some (.slice e)) (hi : P.info? e = some i) (hsz : i.size = 1) (A : Option Addr) (n c m : Nat) (hm : m ≤ n) :
  ∃ A' : Option Addr, (∀ W : World, (Instr.slice t (.slice A n c) (some (.int kl (m : Int))) none none).run P W = .ok (.slice A' (n - m) (c - m)) W) ∧
   ∀ (w : World) (xs : List α), n ≤ c → ReadsOf enc d w A n xs → ReadsOf enc d w A' (n - m) (xs.drop m) := by
 refine ⟨if c = m then A else A.map (·.add m), fun W => ?_, fun w xs hc h => h.drop_ m hm hc⟩
 have hel : P.elem t = e := by simp [Program.elem, ht]
 have hu : P.underlying t = some (.slice (P.elem t)) := by rw [hel]; exact ht
 rw [run_slice_l W t A n c hu kl (m : Int) (Int.natCast_nonneg _) (by omega), hel]
 simp [sizeOf, typeInfo, hi, hsz, sliced, Result.andThen]
theorem in_ {P : Program} (t e : TypeId) (z : Value) (bytes : Nat) (ht : P.underlying t = some (.slice e)) (hinfo : (P.info? e).map (fun i => (i.zero, i.size, i.bytes)) = some (some z, 1, bytes)) (hz : z.cells = #[z]) (hb0 : 0 < bytes)
  (m : Nat) (hn : m * bytes ≤ 281474976710656) :
  ∀ W : World, (Instr.makeSlice t (.int .i64 (m : Int)) (.int .i64 (m : Int))).run P W = .ok (.slice (some ⟨W.heap.size, 0, none⟩) m m) (W.alloc (.cells (madeCells #[z] m) e)) := by
 intro W
 have hm : m ≤ 281474976710656 := Nat.le_trans (Nat.le_mul_of_pos_right _ hb0) hn
 exact run_make_row' t e z bytes ht hinfo hz .i64 .i64 m (by rw [Nat.mul_comm]; exact hn) (by omega) W
end
section
variable {α : Type} {P : Program} {ops : Array Oper} {rest : List Oper} {o : Oper} {a : Act} {Q : Exit → Act → World → Prop}
theorem xh_ {w0 W : World} (enc : α → Value) (d : α) (base : Nat) (hgd : o.guard = none) (s x : Operand) (t e : TypeId) (z : Value) (bytes : Nat)
  (ho : o.op = .call { callee := .builtin .append, args := #[s, x], argTypes := #[t, t] })
  (ht : P.underlying t = some (.slice e)) (hinfo : (P.info? e).map (fun i => (i.zero, i.size, i.bytes)) = some (some z, 1, bytes)) (hz : z.cells.size = 1) (hb0 : 0 < bytes) (h1 : ∀ x : α, (enc x).oneCell' = true)
  (v : Value) (xs ys : List α) (A : Option Addr) (m c : Nat) (hs : a.eval s = v) (hx : a.eval x = .slice A m c)
  (HO : W.ownsRow base e 1 v xs.length (encs enc xs)) (HR : ReadsOf enc d W A m ys) (HB : Below base w0 W) (hbase : base ≤ W.heap.size) (hl : (xs.length + m) * bytes ≤ 140737488355328)
  (h : ∀ v1 w1, w1.ownsRow base e 1 v1 (xs ++ ys).length (encs enc (xs ++ ys)) → Below base w0 w1 → W.grownBy w1 v.ownBlock → (v1.ownBlock = v.ownBlock ∨ ∃ b, v1.ownBlock = some b ∧ W.heap.size ≤ b) → wpList P ops Q rest (a.put o.dst v1) w1) :
  wpList P ops Q (o :: rest) a W := by
 obtain ⟨i0, hi, hzz⟩ := Option.map_eq_some_iff.1 hinfo
 simp only [Prod.mk.injEq] at hzz
 obtain ⟨hz0, hz1, hz2⟩ := hzz
 have hm : ys.length = m := HR.1
 have hlen : xs.length + m ≤ 140737488355328 := Nat.le_trans (Nat.le_mul_of_pos_right _ hb0) hl
 have hrun : ∃ v1 w1, (Builtin.append_ #[t, t] o.type #[v, .slice A m c]).run P W = .ok v1 w1 ∧ w1.ownsRow base e 1 v1 (xs ++ ys).length (encs enc (xs ++ ys)) ∧ W.grownBy w1 v.ownBlock ∧ (v1.ownBlock = v.ownBlock ∨ v1.ownBlock = some W.heap.size) := by
  rcases A with _ | ad
  ·have h0 : m = 0 := by
    rcases Nat.eq_zero_or_pos m with h0 | h0
    ·exact h0
    obtain ⟨ad, h, _⟩ := HR.2.2 h0
    cases h
   subst h0
   obtain rfl : ys = [] := List.eq_nil_of_length_eq_zero hm
   refine ⟨v, W, ?_, by simpa using HO, World.grownBy.refl W _, .inl rfl⟩
   rcases HO.2 with ⟨rfl, hn⟩ | ⟨g, cap, cur, rfl, _, _, hnc, _⟩
   ·simp [Builtin.append_, run_underlying ht, sizeOf, typeInfo, hi, Builtin.lenOf, Builtin.firstCells]
   simp [Builtin.append_, run_underlying ht, sizeOf, typeInfo, hi, Builtin.lenOf, Builtin.firstCells, hnc, storeCells]
  have hcells : ∀ j u, (encs enc ys)[j]? = some u → W.cell? (ad.add j) = some u := by
   intro j u hu
   have hj : j < ys.length := by
    rcases Nat.lt_or_ge j ys.length with h | h
    ·exact h
    simp [encs, List.getElem?_eq_none h] at hu
   obtain ⟨ad', h', hc⟩ := HR.2.2 (by omega)
   injection h' with h'
   subst h'
   rw [encs_get (d := d) ys j hj] at hu
   rw [← hu]
   exact hc j (by omega)
  obtain ⟨v1, w1, hr, h2, h3, _, h5⟩ := run_append_own_at (P := P) W base t o.type e i0 z 1 bytes ht hi hz0 hz1 hz2 hz (by omega) v xs.length (encs enc xs) HO ad m c (encs enc ys) (by simp [encs, hm]) hcells
   (by intro u hu; simp only [encs, List.mem_map] at hu; obtain ⟨q, _, rfl⟩ := hu; exact h1 q) (by simp only [maxLen]; omega) hl hbase
  exact ⟨v1, w1, hr, by simpa [encs, hm] using h2, h3, h5⟩
 obtain ⟨v1, w1, hr, hown, hg, hat⟩ := hrun
 refine wpList_plain hgd fun K hK => ?_
 unfold Oper.wp execOp
 simp only [ho, resolve, invoke, builtin, Sem.run_bind, Sem.run_pure, Result.andThen_ok, List.map_toArray, List.map_cons, List.map_nil, hs, hx, hr]
 refine hK _ _ (h v1 w1 hown (HB.grown hg hbase (me_ HO)) hg ?_)
 rcases hat with hat | hat
 ·exact .inl hat
 exact .inr ⟨_, hat, Nat.le_refl _⟩
end
theorem ga_ {w : World} {g : Nat} {o : Obj} (h : w.heap[g]? = some o) (o' : Obj) : (w.alloc o').heap[g]? = some o := (Below.heap_alloc w o' g (kc_ h)).trans h
theorem ia_ {w : World} {g : Nat} {o : Obj} (h : w.heap[g]? = some o) : w.drew.heap[g]? = some o := h
theorem ha_ {w : World} {g : Nat} {o : Obj} (h : w.heap[g]? = some o) (n : Nat) : (w.drewN n).heap[g]? = some o := h
theorem ya_ {w w1 : World} {g : Nat} {o : Obj} (h : w.heap[g]? = some o) (hb : Below w.heap.size w w1) : w1.heap[g]? = some o := (hb.block g (kc_ h)).trans h
theorem qb_ (w : World) (o : Obj) : (w.alloc o).heap[w.heap.size]? = some o := heap_alloc_new w o
section
variable {P : Program}
end
theorem own_le {w : World} {base n m c size : Nat} {e : TypeId} {A : Option Addr} {xs : List Value} (h : w.ownsRow base e size (.slice A m c) n xs) : m ≤ c := by
 rcases h.2 with ⟨he, _⟩ | ⟨g, cap, cur, he, _, _, hnc, _⟩
 ·injection he with _ h2 h3
  omega
 injection he with _ h2 h3
 omega
def OwnRow {α : Type} (R : α → List Value → Prop) (e : TypeId) (size : Nat) (w : World) (base : Nat) (v : Value) (ps : List α) : Prop :=
 ∃ inner, w.ownsRow base e size v ps.length inner ∧ Reps R size ps inner
section
variable {α : Type} {R R' : α → List Value → Prop} {e : TypeId} {size : Nat} {w w1 : World} {base : Nat} {v : Value} {ps : List α}
theorem OwnRow.none_ (R : α → List Value → Prop) (e : TypeId) (size : Nat) (w : World) (base : Nat) : OwnRow R e size w base (.slice none 0 0) [] := ⟨[], own_nil _ _ _ _, Reps.none _ _⟩
theorem OwnRow.imp_ (h : OwnRow R e size w base v ps) (hR : ∀ p c, R p c → R' p c) : OwnRow R' e size w base v ps := by
 obtain ⟨inner, ho, hr⟩ := h
 exact ⟨inner, ho, hr.imp_ hR⟩
theorem OwnRow.reads (h : OwnRow R e size w base v ps) : ∃ A c, v = .slice A ps.length c ∧ ps.length ≤ c ∧ ReadsRow R size w A ps.length ps := by
 obtain ⟨inner, ho, hr⟩ := h
 obtain ⟨A, c, rfl, hrow⟩ := jn_ ho hr rfl
 exact ⟨A, c, rfl, own_le ho, hrow⟩
theorem OwnRow.ne_block (h : OwnRow R e size w base v ps) {g : Nat} {t : TypeId} {cells : Array Value} (hb : w.heap[g]? = some (.cells cells t (0, 0))) (ht : e ≠ t) : some g ≠ v.ownBlock := by
 obtain ⟨inner, ho, hr⟩ := h
 exact own_ne ho hb ht
end
section
variable {P : Program} {ops : Array Oper} {rest : List Oper} {o : Oper} {a : Act} {Q : Exit → Act → World → Prop} {α : Type} {R : α → List Value → Prop}
end
section
variable {P : Program} {ops : Array Oper} {o : Oper} {a : Act} {Q : Exit → Act → World → Prop} {K : Act → World → Prop} {α : Type} {R : α → List Value → Prop}
end
theorem ReadsRow.inner_ {α : Type} {R : α → List Value → Prop} {size : Nat} {w : World} {ad : Addr} {n : Nat} {ps : List α} (h : ReadsRow R size w (some ad) n ps) :
  ∃ inner, Reps R size ps inner ∧ ∀ j u, inner[j]? = some u → w.cell? (ad.add j) = some u := by
 have key : ∀ m, m ≤ ps.length → ∃ inner, Reps R size (ps.take m) inner ∧ ∀ j u, inner[j]? = some u → w.cell? (ad.add j) = some u := by
  intro m
  induction m with
  | zero => exact fun _ => ⟨[], Reps.none _ _, fun j u hu => by simp at hu⟩
  | succ m ih =>
   intro hm
   obtain ⟨inner, hr, hc⟩ := ih (by omega)
   obtain ⟨ad', he, hcell⟩ := h.2.2 (by have := h.1; omega)
   injection he with he
   subst he
   obtain ⟨c, hcl, hp, hcc⟩ := hcell m _ (List.getElem?_eq_getElem (show m < ps.length by omega))
   refine ⟨inner ++ c, ?_, fun j u hu => ?_⟩
   ·rw [List.take_succ_eq_append_getElem (show m < ps.length by omega)]
    exact hr.snoc hp hcl
   have hil : inner.length = m * size := by rw [hr.1, List.length_take, Nat.min_eq_left (by omega)]
   rcases Nat.lt_or_ge j inner.length with hj | hj
   ·rw [List.getElem?_append_left hj] at hu
    exact hc j u hu
   rw [List.getElem?_append_right hj] at hu
   have := hcc (j - inner.length) u hu
   rwa [hil, Nat.add_sub_cancel' (by omega)] at this
 obtain ⟨inner, hr, hc⟩ := key ps.length (Nat.le_refl _)
 rw [List.take_length] at hr
 exact ⟨inner, hr, hc⟩
section
variable {α : Type} {P : Program}
theorem di_ (enc : α → Value) (d : α) (t e : TypeId) (kl : IntKind) {i : TypeInfo} (ht : P.underlying t = some (.slice e)) (hi : P.info? e = some i) (hsz : i.size = 1) (A : Option Addr) (c : Nat) (xs : List α) (j : Int) (h0 : 0 ≤ j) (hm : j ≤ xs.length) (hc : xs.length ≤ c) :
  (∀ W : World, (Instr.slice t (.slice A xs.length c) none (some (.int kl j)) none).run P W = .ok (.slice A (xs.take j.toNat).length c) W) ∧
   (∀ w : World, ReadsOf enc d w A xs.length xs → ReadsOf enc d w A (xs.take j.toNat).length (xs.take j.toNat)) ∧ (xs.take j.toNat).length ≤ c := by
 have hl : (xs.take j.toNat).length = j.toNat := by rw [List.length_take]; omega
 refine ⟨fun W => ?_, fun w h => by rw [hl]; exact h.take_ j.toNat (by omega), by rw [hl]; omega⟩
 have hel : P.elem t = e := by simp [Program.elem, ht]
 have hu : P.underlying t = some (.slice (P.elem t)) := by rw [hel]; exact ht
 have ha : (A.map fun x => x.add 0) = A := by cases A <;> simp [Addr.add]
 rw [run_slice_h W t A xs.length c hu kl j h0 (by omega), hel, hl]
 simp [sizeOf, typeInfo, hi, hsz, sliced, Result.andThen, ha]
theorem bg_ (enc : α → Value) (d : α) (t e : TypeId) (kl : IntKind) {i : TypeInfo} (ht : P.underlying t = some (.slice e)) (hi : P.info? e = some i) (hsz : i.size = 1) (A : Option Addr) (c : Nat) (xs : List α) (j : Int) (h0 : 0 ≤ j) (hm : j ≤ xs.length) (hc : xs.length ≤ c) :
  ∃ A' : Option Addr, (∀ W : World, (Instr.slice t (.slice A xs.length c) (some (.int kl j)) none none).run P W = .ok (.slice A' (xs.drop j.toNat).length (c - j.toNat)) W) ∧
   (∀ w : World, ReadsOf enc d w A xs.length xs → ReadsOf enc d w A' (xs.drop j.toNat).length (xs.drop j.toNat)) ∧ (xs.drop j.toNat).length ≤ c - j.toNat := by
 obtain ⟨m, rfl⟩ := Int.eq_ofNat_of_zero_le h0
 simp only [Int.toNat_natCast]
 have hmn : m ≤ xs.length := by omega
 obtain ⟨A', h1, h2⟩ := zo_ (P := P) enc d t e kl ht hi hsz A xs.length c m hmn
 have hl : (xs.drop m).length = xs.length - m := List.length_drop
 exact ⟨A', fun W => by rw [hl]; exact h1 W, fun w h => by rw [hl]; exact h2 w xs hc h, by rw [hl]; omega⟩
end
section
variable {P : Program} {ops : Array Oper} {rest : List Oper} {o : Oper} {a : Act} {Q : Exit → Act → World → Prop}
end
structure Kd (α : Type) where
 sz : Nat
 E : List Nat
 K : World → α → List Value → Prop
 M : World → Nat → (Nat → Prop) → α → List Value → Prop
 K_len : ∀ {w x cs}, K w x cs → cs.length = sz
 K_one : ∀ {w x cs}, K w x cs → ∀ u ∈ cs, u.oneCell' = true
 K_below : ∀ {w w1 : World} {x cs}, Below w.heap.size w w1 → K w x cs → K w1 x cs
 K_of_M : ∀ {w base ok x cs}, M w base ok x cs → K w x cs
 M_mono : ∀ {w base ok ok' x cs}, (∀ k, ok k → ok' k) → M w base ok x cs → M w base ok' x cs
 M_bound : ∀ {w : World} {base ok x cs}, M w base ok x cs → M w base (fun k => ok k ∧ base ≤ k ∧ k < w.heap.size ∧ ∃ q, q ∈ E ∧ ∃ cells, w.heap[k]? = some (.cells cells q (0, 0))) x cs
 M_move : ∀ {w w1 : World} {base ok x cs}, (∀ k, ok k → w1.heap[k]? = w.heap[k]?) → M w base ok x cs → M w1 base ok x cs
 M_lower : ∀ {w base base' ok x cs}, base' ≤ base → M w base ok x cs → M w base' ok x cs
theorem own_move {w w1 : World} {base : Nat} {e : TypeId} {size n : Nat} {v : Value} {xs : List Value} (h : w.ownsRow base e size v n xs) (hm : ∀ k, v.ownBlock = some k → w1.heap[k]? = w.heap[k]?) : w1.ownsRow base e size v n xs := by
 obtain ⟨h1, h2⟩ := h
 refine ⟨h1, ?_⟩
 rcases h2 with h2 | ⟨g, cap, cur, rfl, hg, hh, r⟩
 ·exact .inl h2
 exact .inr ⟨g, cap, cur, rfl, hg, (hm g (by simp [Value.ownBlock])).trans hh, r⟩
theorem qh_ {w : World} {base : Nat} {e : TypeId} {size n : Nat} {v : Value} {xs : List Value} (h : w.ownsRow base e size v n xs) (k : Nat) (hk : v.ownBlock = some k) : ∃ cells, w.heap[k]? = some (.cells cells e (0, 0)) := by
 rcases h.2 with ⟨rfl, _⟩ | ⟨g, cap, cur, rfl, hg, hh, r⟩
 ·simp [Value.ownBlock] at hk
 have : g = k := by simpa [Value.ownBlock] using hk
 subst this
 exact ⟨cur, hh⟩
namespace Kd
def C {α : Type} (d : Kd α) (w : World) (A : Option Addr) (n : Nat) (xs : List α) : Prop := ReadsRow (d.K w) d.sz w A n xs
def R {α : Type} (d : Kd α) (e : Nat) (w : World) (base : Nat) (ok : Nat → Prop) (v : Value) (xs : List α) : Prop :=
 (∀ k, v.ownBlock = some k → ok k) ∧ OwnRow (d.M w base (fun k => ok k ∧ some k ≠ v.ownBlock)) e d.sz w base v xs
section
variable {α : Type} {d : Kd α} {e : Nat} {w w1 : World} {base : Nat} {ok ok' : Nat → Prop} {v : Value} {xs : List α}
theorem C_below {A : Option Addr} {n : Nat} (h : d.C w A n xs) (hb : Below w.heap.size w w1) : d.C w1 A n xs := ReadsRow.imp_ h hb (fun _ _ hp => d.K_below hb hp)
theorem R_nil (d : Kd α) (e : Nat) (w : World) (base : Nat) (ok : Nat → Prop) : d.R e w base ok (.slice none 0 0) [] := ⟨fun k hk => by simp [Value.ownBlock] at hk, OwnRow.none_ _ _ _ _ _⟩
theorem R_mono (h : d.R e w base ok v xs) (hok : ∀ k, ok k → ok' k) : d.R e w base ok' v xs := ⟨fun k hk => hok k (h.1 k hk), h.2.imp_ (fun _ _ hp => d.M_mono (fun k hk => ⟨hok k hk.1, hk.2⟩) hp)⟩
theorem R_bound (h : d.R e w base ok v xs) : d.R e w base (fun k => ok k ∧ base ≤ k ∧ k < w.heap.size ∧ ∃ q, q ∈ e :: d.E ∧ ∃ cells, w.heap[k]? = some (.cells cells q (0, 0))) v xs := by
 obtain ⟨h0, inner, ho, hr⟩ := h
 refine ⟨fun k hk => ?_, inner, ho, hr.imp_ (fun _ _ hp => d.M_mono (fun k hk => ?_) (d.M_bound hp))⟩
 ·obtain ⟨cells, hc⟩ := qh_ ho k hk
  exact ⟨h0 k hk, me_ ho k hk, own_lt ho k hk, e, List.mem_cons_self, cells, hc⟩
 obtain ⟨⟨h1, h2⟩, h3, h4, q, hq, hc⟩ := hk
 exact ⟨⟨h1, h3, h4, q, List.mem_cons_of_mem _ hq, hc⟩, h2⟩
theorem R_move (h : d.R e w base ok v xs) (hm : ∀ k, ok k → w1.heap[k]? = w.heap[k]?) : d.R e w1 base ok v xs := by
 obtain ⟨h0, inner, ho, hr⟩ := h
 exact ⟨h0, inner, own_move ho (fun k hk => hm k (h0 k hk)), hr.imp_ (fun _ _ hp => d.M_move (fun k hk => hm k hk.1) hp)⟩
theorem R_lower {base' : Nat} (h : d.R e w base ok v xs) (hb : base' ≤ base) : d.R e w base' ok v xs := by
 obtain ⟨h0, inner, ho, hr⟩ := h
 exact ⟨h0, inner, ss_ ho hb, hr.imp_ (fun _ _ hp => d.M_lower hb hp)⟩
theorem R_step (h : d.R e w base ok v xs) (hm : ∀ k, ok k → k < w.heap.size → w1.heap[k]? = w.heap[k]?) : d.R e w1 base ok v xs :=
 R_mono (R_move (R_bound h) (fun k hk => hm k hk.1 hk.2.2.1)) (fun _ hk => hk.1)
theorem M_step {x : α} {cs : List Value} (h : d.M w base ok x cs) (hm : ∀ k, ok k → k < w.heap.size → w1.heap[k]? = w.heap[k]?) : d.M w1 base ok x cs :=
 d.M_mono (fun _ hk => hk.1) (d.M_move (fun k hk => hm k hk.1 hk.2.2.1) (d.M_bound h))
theorem R_below (h : d.R e w base ok v xs) (hb : Below w.heap.size w w1) : d.R e w1 base ok v xs := R_step h (fun k _ hk => hb.block k hk)
theorem pu_ {x : α} {cs : List Value} (h : d.M w base ok x cs) (hb : Below w.heap.size w w1) : d.M w1 base ok x cs := M_step h (fun k _ hk => hb.block k hk)
theorem R_grown (h : d.R e w base ok v xs) {row : Option Nat} (hg : w.grownBy w1 row) (hok : ∀ k, ok k → some k ≠ row) : d.R e w1 base ok v xs := R_step h (fun k ho hk => hg.block k hk (hok k ho))
theorem R_far (h : d.R e w base ok v xs) {p : Addr} (hok : ∀ k, ok k → k ≠ p.block) (u : Value) : d.R e (w.setCell p u) base ok v xs := R_step h (fun k ho _ => Below.heap_setCell w p u k (hok k ho))
theorem R_types (h : d.R e w base ok v xs) {g t : Nat} {cells : Array Value} (hb : w.heap[g]? = some (.cells cells t (0, 0))) (ht : ∀ q, q ∈ e :: d.E → q ≠ t) : d.R e w base (fun k => ok k ∧ k ≠ g) v xs :=
 R_mono (R_bound h) (fun k hk => ⟨hk.1, by
  obtain ⟨_, _, _, q, hq, cells', hc⟩ := hk
  rintro rfl
  rw [hc] at hb
  injection hb with hb
  injection hb with _ hb
  exact ht q hq hb⟩)
theorem R_reads (h : d.R e w base ok v xs) : ∃ A c, v = .slice A xs.length c ∧ xs.length ≤ c ∧ d.C w A xs.length xs := by
 obtain ⟨A, c, he, hl, hr⟩ := OwnRow.reads h.2
 exact ⟨A, c, he, hl, hr.imp_ (Below.refl _ _) (fun _ _ hp => d.K_of_M hp)⟩
theorem R_slice (h : d.R e w base ok v xs) : ∃ A c, v = .slice A xs.length c := by
 obtain ⟨A, c, he, _⟩ := R_reads h
 exact ⟨A, c, he⟩
theorem R_own (h : d.R e w base ok v xs) : ∃ inner, w.ownsRow base e d.sz v xs.length inner := by
 obtain ⟨_, inner, ho, _⟩ := h
 exact ⟨inner, ho⟩
theorem R_ne (h : d.R e w base ok v xs) {g t : Nat} {cells : Array Value} (hb : w.heap[g]? = some (.cells cells t (0, 0))) (ht : e ≠ t) : some g ≠ v.ownBlock := OwnRow.ne_block h.2 hb ht
end
def scalar {α : Type} (enc : α → Value) (h1 : ∀ x, (enc x).oneCell' = true) : Kd α where
 sz := 1
 E := []
 K := fun _ x cs => cs = [enc x]
 M := fun _ _ _ x cs => cs = [enc x]
 K_len := fun h => by rw [h]; rfl
 K_one := fun h u hu => by
  rw [h] at hu
  rw [List.mem_singleton.1 hu]
  exact h1 _
 K_below := fun _ h => h
 K_of_M := fun h => h
 M_mono := fun _ h => h
 M_bound := fun h => h
 M_move := fun _ h => h
 M_lower := fun _ h => h
def int (k : IntKind) : Kd Int := scalar (Value.int k) (fun _ => rfl)
def bool : Kd Bool := scalar Value.bool (fun _ => rfl)
def string : Kd ByteArray := scalar Value.string (fun _ => rfl)
def slice {α : Type} (e : Nat) (d : Kd α) : Kd (List α) where
 sz := 1
 E := e :: d.E
 K := fun w xs cs => ∃ A c, cs = [.slice A xs.length c] ∧ xs.length ≤ c ∧ d.C w A xs.length xs
 M := fun w base ok xs cs => ∃ v, cs = [v] ∧ d.R e w base ok v xs
 K_len := by
  rintro w x cs ⟨A, c, rfl, _⟩
  rfl
 K_one := by
  rintro w x cs ⟨A, c, rfl, _⟩ u hu
  rw [List.mem_singleton.1 hu]
  rfl
 K_below := by
  rintro w w1 x cs hb ⟨A, c, rfl, hl, hr⟩
  exact ⟨A, c, rfl, hl, C_below hr hb⟩
 K_of_M := by
  rintro w base ok x cs ⟨v, rfl, h⟩
  obtain ⟨A, c, rfl, hl, hr⟩ := R_reads h
  exact ⟨A, c, rfl, hl, hr⟩
 M_mono := by
  rintro w base ok ok' x cs hok ⟨v, rfl, h⟩
  exact ⟨v, rfl, R_mono h hok⟩
 M_bound := by
  rintro w base ok x cs ⟨v, rfl, h⟩
  exact ⟨v, rfl, R_bound h⟩
 M_move := by
  rintro w w1 base ok x cs hm ⟨v, rfl, h⟩
  exact ⟨v, rfl, R_move h hm⟩
 M_lower := by
  rintro w base base' ok x cs hb ⟨v, rfl, h⟩
  exact ⟨v, rfl, R_lower h hb⟩
def pair {α β : Type} (a : Kd α) (b : Kd β) : Kd (α × β) where
 sz := a.sz + b.sz
 E := a.E ++ b.E
 K := fun w x cs => ∃ c0 c1, cs = c0 ++ c1 ∧ a.K w x.1 c0 ∧ b.K w x.2 c1
 M := fun w base ok x cs => ∃ c0 c1, cs = c0 ++ c1 ∧ a.M w base ok x.1 c0 ∧ b.M w base ok x.2 c1
 K_len := by
  rintro w x cs ⟨c0, c1, rfl, h0, h1⟩
  rw [List.length_append, a.K_len h0, b.K_len h1]
 K_one := by
  rintro w x cs ⟨c0, c1, rfl, h0, h1⟩ u hu
  rcases List.mem_append.1 hu with hu | hu
  ·exact a.K_one h0 u hu
  exact b.K_one h1 u hu
 K_below := by
  rintro w w1 x cs hb ⟨c0, c1, rfl, h0, h1⟩
  exact ⟨c0, c1, rfl, a.K_below hb h0, b.K_below hb h1⟩
 K_of_M := by
  rintro w base ok x cs ⟨c0, c1, rfl, h0, h1⟩
  exact ⟨c0, c1, rfl, a.K_of_M h0, b.K_of_M h1⟩
 M_mono := by
  rintro w base ok ok' x cs hok ⟨c0, c1, rfl, h0, h1⟩
  exact ⟨c0, c1, rfl, a.M_mono hok h0, b.M_mono hok h1⟩
 M_bound := by
  rintro w base ok x cs ⟨c0, c1, rfl, h0, h1⟩
  refine ⟨c0, c1, rfl, a.M_mono ?_ (a.M_bound h0), b.M_mono ?_ (b.M_bound h1)⟩
  ·rintro k ⟨h2, h3, h4, q, hq, hc⟩
   exact ⟨h2, h3, h4, q, List.mem_append_left _ hq, hc⟩
  rintro k ⟨h2, h3, h4, q, hq, hc⟩
  exact ⟨h2, h3, h4, q, List.mem_append_right _ hq, hc⟩
 M_move := by
  rintro w w1 base ok x cs hm ⟨c0, c1, rfl, h0, h1⟩
  exact ⟨c0, c1, rfl, a.M_move hm h0, b.M_move hm h1⟩
 M_lower := by
  rintro w base base' ok x cs hb ⟨c0, c1, rfl, h0, h1⟩
  exact ⟨c0, c1, rfl, a.M_lower hb h0, b.M_lower hb h1⟩
def iso {α β : Type} (d : Kd α) (f : β → α) : Kd β where
 sz := d.sz
 E := d.E
 K := fun w x cs => d.K w (f x) cs
 M := fun w base ok x cs => d.M w base ok (f x) cs
 K_len := d.K_len
 K_one := d.K_one
 K_below := d.K_below
 K_of_M := d.K_of_M
 M_mono := d.M_mono
 M_bound := d.M_bound
 M_move := d.M_move
 M_lower := d.M_lower
def bot {α : Type} (sz : Nat) (E : List Nat) : Kd α where
 sz := sz
 E := E
 K := fun _ _ _ => False
 M := fun _ _ _ _ _ => False
 K_len := fun h => h.elim
 K_one := fun h => h.elim
 K_below := fun _ h => h
 K_of_M := fun h => h
 M_mono := fun _ h => h
 M_bound := fun h => h
 M_move := fun _ h => h
 M_lower := fun _ h => h
def upto {α : Type} (F : Kd α → Kd α) (sz : Nat) (E : List Nat) : Nat → Kd α
 | 0 => bot sz E
 | n + 1 => F (upto F sz E n)
theorem C_get {α : Type} {d : Kd α} {w : World} {A : Option Addr} {n : Nat} {xs : List α} (h : d.C w A n xs) (z : α) (i : Int) (h0 : 0 ≤ i) (h1 : i < n) :
  ∃ ad c, A = some ad ∧ c.length = d.sz ∧ d.K w (xs.getD i.toNat z) c ∧ ∀ j u, c[j]? = some u → w.cell? (ad.add (i.toNat * d.sz + j)) = some u := ReadsRow.get_ h z i h0 h1
theorem wm_ {α : Type} {d : Kd α} {e base : Nat} {ok okp : Nat → Prop} {W w1 : World} {v v1 : Value} {xs : List α} {p : α} {inner cs : List Value} (h0 : ∀ k, v.ownBlock = some k → ok k) (hr : Reps (d.M W base (fun k => ok k ∧ some k ≠ v.ownBlock)) d.sz xs inner) (hp : d.M W base okp p cs) (hokp : ∀ k, okp k → ok k ∧ some k ≠ v.ownBlock) (hfresh : ∀ k, W.heap.size ≤ k → ok k)
  (hown : w1.ownsRow base e d.sz v1 (xs.length + 1) (inner ++ cs)) (hg : W.grownBy w1 v.ownBlock) (hat : v1.ownBlock = v.ownBlock ∨ ∃ b, v1.ownBlock = some b ∧ W.heap.size ≤ b) : d.R e w1 base ok v1 (xs ++ [p]) := by
 have hne : ∀ k, some k ≠ v.ownBlock → k < W.heap.size → some k ≠ v1.ownBlock := by
  intro k hk hlt
  rcases hat with hat | ⟨b, hb, hle⟩
  ·rw [hat]; exact hk
  rw [hb]
  intro he
  injection he with he
  omega
 have step : ∀ {q : α} {c : List Value} {o : Nat → Prop}, d.M W base o q c → (∀ k, o k → ok k ∧ some k ≠ v.ownBlock) → d.M w1 base (fun k => ok k ∧ some k ≠ v1.ownBlock) q c := by
  intro q c o hq ho
  have h1 := d.M_move (w1 := w1) (fun k hk => hg.block k hk.2.2.1 (ho k hk.1).2) (d.M_bound hq)
  exact d.M_mono (fun k hk => ⟨(ho k hk.1).1, hne k (ho k hk.1).2 hk.2.2.1⟩) h1
 refine ⟨fun k hk => ?_, inner ++ cs, by rw [List.length_append, List.length_singleton]; exact hown, ?_⟩
 ·rcases hat with hat | ⟨b, hb, hle⟩
  ·exact h0 k (hat ▸ hk)
  rw [hb] at hk
  injection hk with hk
  exact hfresh k (by omega)
 exact (hr.imp_ (fun _ _ hq => step hq (fun _ hk => hk))).snoc (step hp hokp) (d.K_len (d.K_of_M hp))
section
variable {P : Program} {ops : Array Oper} {rest : List Oper} {o : Oper} {a : Act} {Q : Exit → Act → World → Prop} {α : Type}
theorem R_append (d : Kd α) {w0 W : World} (base : Nat) (hgd : o.guard = none) (s x : Operand) (t e : TypeId) (z : Value) (bytes : Nat)
  (ho : o.op = .call { callee := .builtin .append, args := #[s, x], argTypes := #[t, t] })
  (ht : P.underlying t = some (.slice e)) (hinfo : (P.info? e).map (fun i => (i.zero, i.size, i.bytes)) = some (some z, d.sz, bytes)) (hz : z.cells.size = d.sz) (hs0 : 0 < d.sz) (hb0 : 0 < bytes)
  (v : Value) (xs : List α) (p : α) (cs : List Value) (ok okp : Nat → Prop) (hs : a.eval s = v) (hx : a.eval x = .slice (some ⟨W.heap.size, 0, none⟩) 1 1) (hp : d.M W base okp p cs) (hokp : ∀ k, okp k → ok k ∧ some k ≠ v.ownBlock) (hfresh : ∀ k, W.heap.size ≤ k → ok k)
  (HO : d.R e W base ok v xs) (HB : Below base w0 W) (hbase : base ≤ W.heap.size) (hl : (xs.length + 1) * bytes ≤ 140737488355328)
  (h : ∀ v1 w1, d.R e w1 base ok v1 (xs ++ [p]) → Below base w0 w1 → W.grownBy w1 v.ownBlock → (v1.ownBlock = v.ownBlock ∨ ∃ b, v1.ownBlock = some b ∧ W.heap.size ≤ b) → wpList P ops Q rest (a.put o.dst v1) w1) :
  wpList P ops Q (o :: rest) a (W.alloc (.cells cs.toArray e)) := by
 obtain ⟨h0, inner, hown, hr⟩ := HO
 refine oi_ base hgd s x t e z d.sz bytes ho ht hinfo hz hs0 hb0 v xs.length inner cs hs hx (d.K_len (d.K_of_M hp)) (d.K_one (d.K_of_M hp)) hown HB hbase hl ?_
 intro v1 w1 hown1 hb1 hg1 hat1
 exact h v1 w1 (wm_ h0 hr hp hokp hfresh hown1 hg1 hat1) hb1 hg1 hat1
end
section
variable {P : Program} {ops : Array Oper} {o : Oper} {a : Act} {Q : Exit → Act → World → Prop} {Kc : Act → World → Prop} {α : Type}
theorem R_append_step (d : Kd α) {w0 W : World} (base : Nat) (hw : Region.wanted o (yielded ops a.tmps) = true) (s x : Operand) (t e : TypeId) (z : Value) (bytes : Nat)
  (ho : o.op = .call { callee := .builtin .append, args := #[s, x], argTypes := #[t, t] })
  (ht : P.underlying t = some (.slice e)) (hinfo : (P.info? e).map (fun i => (i.zero, i.size, i.bytes)) = some (some z, d.sz, bytes)) (hz : z.cells.size = d.sz) (hs0 : 0 < d.sz) (hb0 : 0 < bytes)
  (v : Value) (xs : List α) (p : α) (cs : List Value) (ok okp : Nat → Prop) (hs : a.eval s = v) (hx : a.eval x = .slice (some ⟨W.heap.size, 0, none⟩) 1 1) (hp : d.M W base okp p cs) (hokp : ∀ k, okp k → ok k ∧ some k ≠ v.ownBlock) (hfresh : ∀ k, W.heap.size ≤ k → ok k)
  (HO : d.R e W base ok v xs) (HB : Below base w0 W) (hbase : base ≤ W.heap.size) (hl : (xs.length + 1) * bytes ≤ 140737488355328)
  (h : ∀ v1 w1, d.R e w1 base ok v1 (xs ++ [p]) → Below base w0 w1 → W.grownBy w1 v.ownBlock → (v1.ownBlock = v.ownBlock ∨ ∃ b, v1.ownBlock = some b ∧ W.heap.size ≤ b) → Kc (a.put o.dst v1) w1) :
  if Region.wanted o (yielded ops a.tmps) = true then Oper.wp P o a (W.alloc (.cells cs.toArray e)) Kc Q else Kc (a.put o.dst undef) (W.alloc (.cells cs.toArray e)) := by
 obtain ⟨h0, inner, hown, hr⟩ := HO
 refine vi_ base hw s x t e z d.sz bytes ho ht hinfo hz hs0 hb0 v xs.length inner cs hs hx (d.K_len (d.K_of_M hp)) (d.K_one (d.K_of_M hp)) hown HB hbase hl ?_
 intro v1 w1 hown1 hb1 hg1 hat1
 exact h v1 w1 (wm_ h0 hr hp hokp hfresh hown1 hg1 hat1) hb1 hg1 hat1
end
theorem pq_ {α : Type} {enc : α → Value} (xs : List α) : Reps (fun (x : α) (cs : List Value) => cs = [enc x]) 1 xs (encs enc xs) := by
 refine ⟨by simp [encs], fun j p hj => ?_⟩
 obtain ⟨hl, hp⟩ := List.getElem?_eq_some_iff.1 hj
 have hl' : j < (encs enc xs).length := by rw [vk_]; exact hl
 rw [Nat.mul_one, List.drop_eq_getElem_cons hl']
 simp [encs, hp]
theorem R_of_own {α : Type} {enc : α → Value} {h1 : ∀ x, (enc x).oneCell' = true} {e : Nat} {w : World} {base : Nat} {ok : Nat → Prop} {v : Value} {xs : List α} (ho : w.ownsRow base e 1 v xs.length (encs enc xs)) (hok : ∀ k, v.ownBlock = some k → ok k) : (scalar enc h1).R e w base ok v xs := ⟨hok, encs enc xs, ho, pq_ xs⟩
theorem own_of_R {α : Type} {enc : α → Value} {h1 : ∀ x, (enc x).oneCell' = true} {e : Nat} {w : World} {base : Nat} {ok : Nat → Prop} {v : Value} {xs : List α} (h : (scalar enc h1).R e w base ok v xs) : w.ownsRow base e 1 v xs.length (encs enc xs) := by
 obtain ⟨_, inner, ho, hr⟩ := h
 have : inner = encs enc xs := by
  apply List.ext_getElem?
  intro j
  rcases Nat.lt_or_ge j xs.length with hj | hj
  ·have h2 := hr.2 j _ (List.getElem?_eq_getElem hj)
   have hl : j < inner.length := by have := hr.1; simp [scalar] at this; omega
   have h3 : (inner.drop (j * 1)).take 1 = [enc xs[j]] := h2
   rw [Nat.mul_one, List.drop_eq_getElem_cons hl] at h3
   have h4 : inner[j] = enc xs[j] := by
    have h5 := congrArg List.head? h3
    rw [List.take_succ_cons] at h5
    exact Option.some.inj h5
   rw [List.getElem?_eq_getElem hl, h4]
   simp [encs, List.getElem?_eq_getElem hj]
  have h3 : inner.length = xs.length := by have := hr.1; simp [scalar] at this; omega
  rw [List.getElem?_eq_none (by omega), List.getElem?_eq_none (by rw [vk_]; omega)]
 rw [← this]
 exact ho
theorem C_of_reads {α : Type} {enc : α → Value} {d : α} {h1 : ∀ x, (enc x).oneCell' = true} {w : World} {A : Option Addr} {n : Nat} {xs : List α} (h : ReadsOf enc d w A n xs) : (scalar enc h1).C w A n xs := by
 refine ⟨h.1, h.2.1, fun hn => ?_⟩
 obtain ⟨ad, e, hc⟩ := h.2.2 hn
 refine ⟨ad, e, fun j p hj => ⟨[enc p], rfl, rfl, fun i u hu => ?_⟩⟩
 obtain ⟨hl, hp⟩ := List.getElem?_eq_some_iff.1 hj
 have h2 := hc j (by have := h.1; omega)
 rw [List.getD_eq_getElem?_getD, hj] at h2
 cases i with
 | zero =>
  have : enc p = u := by simpa using hu
  subst this
  simpa [scalar] using h2
 | succ i => simp at hu
theorem reads_of_C {α : Type} {enc : α → Value} {d : α} {h1 : ∀ x, (enc x).oneCell' = true} {w : World} {A : Option Addr} {n : Nat} {xs : List α} (h : (scalar enc h1).C w A n xs) : ReadsOf enc d w A n xs := by
 refine ⟨h.1, h.2.1, fun hn => ?_⟩
 obtain ⟨ad, e, hc⟩ := h.2.2 hn
 refine ⟨ad, e, fun j hj => ?_⟩
 have hl : j < xs.length := by have := h.1; omega
 obtain ⟨c, _, hK, hcell⟩ := hc j _ (List.getElem?_eq_getElem hl)
 have hK' : c = [enc xs[j]] := hK
 subst hK'
 have := hcell 0 _ rfl
 simpa [scalar, List.getD_eq_getElem?_getD, List.getElem?_eq_getElem hl] using this
end Kd
namespace Kd
section
variable {α : Type} {F : Kd α → Kd α} {sz : Nat} {E : List Nat} {hs : ∀ n, (upto F sz E n).sz = sz} {hE : ∀ n q, q ∈ (upto F sz E n).E → q ∈ E}
end
end Kd
namespace Kd
theorem R_after {α : Type} {d : Kd α} {e base : Nat} {ok : Nat → Prop} {W w1 : World} {u v v1 : Value} {xs : List α} (h : d.R e W base (fun k => ok k ∧ some k ≠ v.ownBlock) u xs) (hg : W.grownBy w1 v.ownBlock) (hat : v1.ownBlock = v.ownBlock ∨ ∃ b, v1.ownBlock = some b ∧ W.heap.size ≤ b) : d.R e w1 base (fun k => ok k ∧ some k ≠ v1.ownBlock) u xs := by
 refine R_mono (R_move (R_bound h) (fun k hk => hg.block k hk.2.2.1 hk.1.2)) (fun k hk => ⟨hk.1.1, ?_⟩)
 rcases hat with hat | ⟨b, hb, hle⟩
 ·rw [hat]; exact hk.1.2
 rw [hb]
 intro he
 injection he with he
 have := hk.2.2.1
 omega
end Kd
namespace Kd
section
variable {α β : Type} {d : Kd α} {d' : Kd β} {e e' : Nat} {w w1 W : World} {base b b' : Nat} {ok ok' okv oku : Nat → Prop} {v u : Value} {xs : List α} {ys : List β}
theorem R_alloc (h : d.R e w base ok v xs) (o : Obj) : d.R e (w.alloc o) base ok v xs := R_below h (ba_ (Below.refl _ _) o)
theorem R_drew (h : d.R e w base ok v xs) : d.R e w.drew base ok v xs := R_below h (yb_ (Below.refl _ _))
theorem R_drewN (h : d.R e w base ok v xs) (m : Nat) : d.R e (w.drewN m) base ok v xs := R_below h (aa_ (Below.refl _ _) m)
theorem C_alloc {A : Option Addr} {n : Nat} (h : d.C w A n xs) (o : Obj) : d.C (w.alloc o) A n xs := C_below h (ba_ (Below.refl _ _) o)
theorem C_drew {A : Option Addr} {n : Nat} (h : d.C w A n xs) : d.C w.drew A n xs := C_below h (yb_ (Below.refl _ _))
theorem C_drewN {A : Option Addr} {n : Nat} (h : d.C w A n xs) (m : Nat) : d.C (w.drewN m) A n xs := C_below h (aa_ (Below.refl _ _) m)
theorem C_nil (d : Kd α) (w : World) : d.C w none ([] : List α).length [] := ⟨rfl, by simp, fun h => absurd h (Nat.lt_irrefl 0)⟩
theorem R_reads' {A : Option Addr} {n c : Nat} (h : d.R e w base ok (.slice A n c) xs) : n = xs.length ∧ n ≤ c ∧ d.C w A xs.length xs := by
 obtain ⟨A', c', he, hl, hr⟩ := R_reads h
 injection he with h1 h2 h3
 subst h1
 exact ⟨h2, by omega, hr⟩
theorem R_lt (h : d.R e w base ok v xs) : ∀ k, v.ownBlock = some k → k < w.heap.size := by
 obtain ⟨inner, ho⟩ := R_own h
 exact own_lt ho
theorem R_base (h : d.R e w base ok v xs) : ∀ k, v.ownBlock = some k → base ≤ k := by
 obtain ⟨inner, ho⟩ := R_own h
 exact me_ ho
theorem R_form (h : d.R e w base ok v xs) (hp : 0 < xs.length) : ∃ g cap, v = .slice (some ⟨g, 0, none⟩) xs.length cap ∧ base ≤ g ∧ g < w.heap.size ∧ ∃ cells, w.heap[g]? = some (.cells cells e (0, 0)) := by
 obtain ⟨inner, ho⟩ := R_own h
 obtain ⟨g, cap, he, hb, hl⟩ := ho.form hp
 obtain ⟨cells, hc⟩ := qh_ ho g (by rw [he]; simp [Value.ownBlock])
 exact ⟨g, cap, he, hb, hl, cells, hc⟩
end
section
variable {w W : World} {A : Option Addr} {n : Nat}
theorem at_int {k : IntKind} {xs : List Int} (h : (Kd.int k).C w A n xs) (i : Int) (h0 : 0 ≤ i) (h1 : i < n) : ∃ ad, A = some ad ∧ w.cell? (ad.add i.toNat) = some (.int k (rd xs i)) :=
 ReadsOf.at_ (reads_of_C (enc := Value.int k) (d := (0 : Int)) (h1 := fun _ => rfl) h) i h0 h1
variable {α : Type} {enc : α → Value} {h1 : ∀ x, (enc x).oneCell' = true} {e base g cap : Nat} {ok : Nat → Prop} {xs : List α}
end
section
variable {P : Program} {ops : Array Oper} {rest : List Oper} {o : Oper} {a : Act} {Q : Exit → Act → World → Prop}
theorem event_run {W w1 : World} {v : Value} (hgd : o.guard = none) (hrun : (execOp a.eval o).run P W = .ok (.value v) w1) (h : wpList P ops Q rest (a.put o.dst v) w1) : wpList P ops Q (o :: rest) a W := by
 refine wpList_plain hgd fun K hK => ?_
 unfold Oper.wp
 rw [hrun]
 exact hK _ _ h
variable {α : Type}
theorem R_lit (d : Kd α) {w0 W : World} (base e : Nat) (hgd : o.guard = none) {N : Tmp} (_hd : o.dst = some N) {xs : List α} {inner : List Value} {ok okp : Nat → Prop}
  (hrun : (execOp a.eval o).run P W = .ok (.value (.slice (some ⟨W.heap.size, 0, none⟩) xs.length xs.length)) (W.alloc (.cells inner.toArray e)))
  (hrep : Reps (d.M W base okp) d.sz xs inner) (hok : ∀ k, okp k → ok k) (hfresh : ok W.heap.size) (HB : Below base w0 W) (hbase : base ≤ W.heap.size) (hm : xs.length ≤ 9223372036854775807)
  (h : ∀ v1 w1, d.R e w1 base ok v1 xs → Below base w0 w1 → W.grownBy w1 none → (∃ b, v1.ownBlock = some b ∧ W.heap.size ≤ b) → wpList P ops Q rest (a.put o.dst v1) w1) : wpList P ops Q (o :: rest) a W := by
 refine event_run hgd hrun (h _ _ ⟨fun k hk => ?_, inner, ?_, ?_⟩ (HB.alloc hbase _) (World.grownBy_alloc W _ none) ⟨W.heap.size, by simp [Value.ownBlock], Nat.le_refl _⟩)
 ·have : W.heap.size = k := by simpa [Value.ownBlock] using hk
  subst this
  exact hfresh
 ·have h2 := World.ownsRow_lit (base := base) (e := e) (size := d.sz) W inner.toArray xs.length hbase (by simpa [maxLen] using hm) (by simpa using hrep.1)
  simpa using h2
 refine hrep.imp_ (fun p c hp => d.M_mono (fun k hk => ⟨hok k hk.1, fun he => ?_⟩) (pu_ (d.M_bound hp) (ba_ (Below.refl _ _) _)))
 have h3 : k = W.heap.size := by simpa [Value.ownBlock] using he
 have := hk.2.2.1
 omega
end
end Kd
section
variable {P : Program}
end
def QRow (w : World) (base : Nat) (e : TypeId) (size : Nat) (v : Value) (n : Nat) (xs : List Value) : Prop :=
 xs.length = n * size ∧
 ((n = 0 ∧ ∃ A, v = .slice A 0 0 ∧ ∀ a, A = some a → base ≤ a.block ∧ ∃ cur, w.heap[a.block]? = some (.cells cur e (0, 0))) ∨
  ∃ g off cap cur, v = .slice (some ⟨g, off * size, none⟩) n cap ∧ base ≤ g ∧ w.heap[g]? = some (.cells cur e (0, 0)) ∧ n ≤ cap ∧ off + cap ≤ maxLen ∧ cur.size = (off + cap) * size ∧ (cur.toList.drop (off * size)).take (n * size) = xs)
section
variable {w w1 : World} {base n size : Nat} {e : TypeId} {v : Value} {xs : List Value}
theorem yi_ {g : Nat} : ∀ (vs : List Value) (o : Nat) {w : World} (k : Nat), k ≠ g → (w.setCells g o vs).heap[k]? = w.heap[k]?
 | [], _, _, _, _ => rfl
 | v :: r, o, w, k, hk => by
  rw [World.setCells, yi_ r (o + 1) k hk]
  exact Below.heap_setCell w ⟨g, o, none⟩ v k hk
theorem ai_ (g : Nat) : ∀ (vs : List Value) (o : Nat) (w : World), (w.setCells g o vs).os = w.os ∧ (w.setCells g o vs).tape = w.tape ∧ (w.setCells g o vs).output = w.output ∧ (w.setCells g o vs).heap.size = w.heap.size
 | [], _, _ => ⟨rfl, rfl, rfl, rfl⟩
 | v :: r, o, w => by
  obtain ⟨h1, h2, h3, h4⟩ := ai_ g r (o + 1) (w.setCell ⟨g, o, none⟩ v)
  rw [World.setCells]
  exact ⟨h1, h2, h3, by rw [h4]; simp [World.setCell]⟩
theorem xi_ {g : Nat} {e : TypeId} : ∀ (vs : List Value) (o : Nat) (w : World) (cur : Array Value), w.heap[g]? = some (.cells cur e (0, 0)) → o + vs.length ≤ cur.size →
  ∃ cur', (w.setCells g o vs).heap[g]? = some (.cells cur' e (0, 0)) ∧ cur'.size = cur.size ∧ cur'.toList = cur.toList.take o ++ vs ++ cur.toList.drop (o + vs.length)
 | [], o, w, cur, h, _ => ⟨cur, h, rfl, by simp⟩
 | v :: r, o, w, cur, h, hl => by
  have h2 := xf_ h o v
  simp only [List.length_cons] at hl
  obtain ⟨cur', h3, h4, h5⟩ := xi_ r (o + 1) (w.setCell ⟨g, o, none⟩ v) _ h2 (by simp; omega)
  refine ⟨cur', h3, by rw [h4]; simp, ?_⟩
  rw [h5, Array.toList_setIfInBounds]
  have ho : o < cur.toList.length := by rw [Array.length_toList]; omega
  rw [List.take_set, List.drop_set_of_lt (by omega)]
  simp only [List.length_cons]
  rw [show o + 1 + r.length = o + (r.length + 1) by omega]
  congr 1
  rw [List.take_succ_eq_append_getElem ho, List.set_append_right _ _ (by rw [List.length_take]; omega)]
  have ho' : o < cur.size := by omega
  simp [Nat.min_eq_left (Nat.le_of_lt ho')]
end
section
variable {P : Program}
end
namespace Kd
def Q {α : Type} (d : Kd α) (e : Nat) (w : World) (base : Nat) (ok : Nat → Prop) (v : Value) (xs : List α) : Prop :=
 (∀ k, v.ownBlock = some k → ok k) ∧ ∃ inner, QRow w base e d.sz v xs.length inner ∧ Reps (d.M w base (fun k => ok k ∧ some k ≠ v.ownBlock)) d.sz xs inner
section
variable {α : Type} {d : Kd α} {e : Nat} {w w1 W : World} {base : Nat} {ok ok' : Nat → Prop} {v : Value} {xs : List α}
end
section
variable {P : Program} {ops : Array Oper} {rest : List Oper} {o : Oper} {a : Act} {Q' : Exit → Act → World → Prop} {Kc : Act → World → Prop} {α : Type}
end
end Kd
namespace Kd
section
variable {α : Type} {d : Kd α} {e e' : Nat} {w w1 W : World} {base : Nat} {ok : Nat → Prop} {u v : Value} {xs : List α}
theorem R_typed (h : d.R e w base ok v xs) : ∀ k, v.ownBlock = some k → ∃ cells, w.heap[k]? = some (.cells cells e (0, 0)) := by
 obtain ⟨inner, ho⟩ := R_own h
 exact fun k hk => qh_ ho k hk
theorem R_over' (h : d.R e W base ok u xs) (hty : ∀ k, v.ownBlock = some k → ∃ cells, W.heap[k]? = some (.cells cells e' (0, 0))) (ht : ∀ q, q ∈ e :: d.E → q ≠ e') (hg : W.grownBy w1 v.ownBlock) : d.R e w1 base ok u xs := by
 refine R_mono (R_move (R_bound h) (fun k hk => hg.block k hk.2.2.1 (fun he => ?_))) (fun _ hk => hk.1)
 obtain ⟨_, _, _, q, hq, cells, hc⟩ := hk
 obtain ⟨cells', hc'⟩ := hty k he.symm
 rw [hc] at hc'
 injection hc' with hc'
 injection hc' with _ hc'
 exact ht q hq hc'
theorem R_apart' (h : d.R e W base ok u xs) (hty : ∀ k, v.ownBlock = some k → ∃ cells, W.heap[k]? = some (.cells cells e' (0, 0))) (ht : ∀ q, q ∈ e :: d.E → q ≠ e') : d.R e W base (fun k => ok k ∧ some k ≠ v.ownBlock) u xs := by
 refine R_mono (R_bound h) (fun k hk => ⟨hk.1, fun he => ?_⟩)
 obtain ⟨_, _, _, q, hq, cells, hc⟩ := hk
 obtain ⟨cells', hc'⟩ := hty k he.symm
 rw [hc] at hc'
 injection hc' with hc'
 injection hc' with _ hc'
 exact ht q hq hc'
theorem R_elder' (hu : d.R e W base ok u xs) (hbase : ∀ k, v.ownBlock = some k → W.heap.size ≤ k) (hb : Below W.heap.size W w1) : d.R e w1 base (fun k => ok k ∧ some k ≠ v.ownBlock) u xs :=
 R_mono (R_move (R_bound hu) (fun k hk => hb.block k hk.2.2.1)) (fun k hk => ⟨hk.1, fun he => by have := hbase k he.symm; have := hk.2.2.1; omega⟩)
theorem R_new' (h : d.R e w1 W.heap.size ok v xs) (hlt : ∀ k, u.ownBlock = some k → k < W.heap.size) : d.R e w1 W.heap.size (fun k => ok k ∧ some k ≠ u.ownBlock) v xs :=
 R_mono (R_bound h) (fun k hk => ⟨hk.1, fun he => by have := hlt k he.symm; have := hk.2.1; omega⟩)
theorem fresh' (hlt : ∀ k, u.ownBlock = some k → k < W.heap.size) : ∀ k, W.heap.size ≤ k → some k ≠ u.ownBlock := fun k hk he => by have := hlt k he.symm; omega
end
end Kd
theorem zi_ {α : Type} (a seg : List α) (o : Nat) (h : o + seg.length ≤ a.length) (q : Nat) :
  (a.take o ++ seg ++ a.drop (o + seg.length))[q]? = if q < o then a[q]? else if q < o + seg.length then seg[q - o]? else a[q]? := by
 have hl : (a.take o).length = o := by rw [List.length_take]; omega
 rw [List.append_assoc]
 by_cases h1 : q < o
 ·rw [if_pos h1, List.getElem?_append_left (by omega), List.getElem?_take, if_pos h1]
 rw [if_neg h1, List.getElem?_append_right (by omega), hl]
 by_cases h2 : q < o + seg.length
 ·rw [if_pos h2, List.getElem?_append_left (by omega)]
 rw [if_neg h2, List.getElem?_append_right (by omega), List.getElem?_drop]
 congr 1
 omega
namespace Kd
section
variable {α : Type} {d : Kd α} {e base g n cap : Nat} {ok okp : Nat → Prop} {W : World} {xs : List α}
theorem R_elem (h : d.R e W base ok (.slice (some ⟨g, 0, none⟩) n cap) xs) (z : α) (i : Int) (h0 : 0 ≤ i) (h1 : i < n) :
  ∃ c, c.length = d.sz ∧ d.M W base (fun k => ok k ∧ k ≠ g) (xs.getD i.toNat z) c ∧ (∀ j u, c[j]? = some u → W.cell? ⟨g, i.toNat * d.sz + j, none⟩ = some u) ∧ ∀ j, W.frozen? ⟨g, i.toNat * d.sz + j, none⟩ = false := by
 obtain ⟨hn, hnc, hC⟩ := R_reads' h
 obtain ⟨_, inner, ho, hr⟩ := h
 have hil : i.toNat < xs.length := by omega
 have hseg : i.toNat * d.sz + d.sz ≤ inner.length := by rw [hr.1, ← Nat.succ_mul]; exact Nat.mul_le_mul_right _ hil
 have hM := hr.2 i.toNat _ (List.getElem?_eq_getElem hil)
 refine ⟨(inner.drop (i.toNat * d.sz)).take d.sz, by rw [List.length_take, List.length_drop]; omega, ?_, fun j u hu => ?_, fun j => ?_⟩
 ·rw [List.getD_eq_getElem?_getD, List.getElem?_eq_getElem hil]
  exact d.M_mono (fun k hk => ⟨hk.1, fun he => hk.2 (by rw [he]; simp [Value.ownBlock])⟩) hM
 ·rw [List.getElem?_take] at hu
  split at hu
  ·rw [List.getElem?_drop] at hu
   have := ho.cells (g := g) (by simp [Value.ownBlock]) _ u hu
   rwa [hw_] at this
  cases hu
 obtain ⟨cells, hc⟩ := qh_ ho g (by simp [Value.ownBlock])
 exact fa_ hc _
theorem R_seg (h : d.R e W base ok (.slice (some ⟨g, 0, none⟩) n cap) xs) (i : Int) (h0 : 0 ≤ i) (h1 : i < n) {c seg : List Value} {j : Nat} (hcl : c.length = d.sz) (hcc : ∀ j u, c[j]? = some u → W.cell? ⟨g, i.toNat * d.sz + j, none⟩ = some u)
  (hj : j + seg.length ≤ d.sz) {x' : α} (hM : d.M W base okp x' (c.take j ++ seg ++ c.drop (j + seg.length))) (hokp : ∀ k, okp k → ok k ∧ k ≠ g) :
  d.R e (W.setCells g (i.toNat * d.sz + j) seg) base ok (.slice (some ⟨g, 0, none⟩) n cap) (xs.set i.toNat x') ∧ W.grownBy (W.setCells g (i.toNat * d.sz + j) seg) (some g) := by
 obtain ⟨hn, hnc, _⟩ := R_reads' h
 obtain ⟨hok, inner, ho, hr⟩ := h
 have hil : i.toNat < xs.length := by omega
 have hseg : i.toNat * d.sz + d.sz ≤ inner.length := by rw [hr.1, ← Nat.succ_mul]; exact Nat.mul_le_mul_right _ hil
 have hin : inner.length = n * d.sz := by rw [hr.1, hn]
 obtain ⟨ho1, ho2⟩ := ho
 rcases ho2 with ⟨hv, _⟩ | ⟨g', cap', cur, hv, hb, hh, hnc', hcm, hcs, ht⟩
 ·cases hv
 injection hv with ha _ hc
 injection ha with ha
 injection ha with hg
 subst hg; subst hc
 have hfit : i.toNat * d.sz + j + seg.length ≤ cur.size := by
  have : n * d.sz ≤ cap * d.sz := Nat.mul_le_mul_right _ hnc
  omega
 obtain ⟨cur', h3, h4, h5⟩ := xi_ seg (i.toNat * d.sz + j) W cur hh hfit
 obtain ⟨s1, s2, s3, s4⟩ := ai_ g seg (i.toNat * d.sz + j) W
 have hfar : ∀ k, k ≠ g → (W.setCells g (i.toNat * d.sz + j) seg).heap[k]? = W.heap[k]? := fun k hk => yi_ seg _ k hk
 have hcin : ∀ q, q < d.sz → c[q]? = inner[i.toNat * d.sz + q]? := by
  intro q hq
  have hq' : q < c.length := by omega
  have h6 := hcc q _ (List.getElem?_eq_getElem hq')
  rw [cell_of_row W g _ cur e (0, 0) hh] at h6
  rw [List.getElem?_eq_getElem hq', ← h6, ← ht, List.getElem?_take, if_pos (by rw [← hn]; omega), Array.getElem?_toList]
 refine ⟨⟨hok, inner.take (i.toNat * d.sz + j) ++ seg ++ inner.drop (i.toNat * d.sz + j + seg.length), ⟨?_, .inr ⟨g, cap, cur', by rw [List.length_set, hn], hb, h3, by rw [List.length_set, ← hn]; exact hnc, hcm, by rw [h4, hcs], ?_⟩⟩, ?_⟩,
  ⟨s1, s2, s3, by rw [s4]; exact Nat.le_refl _, fun k _ hk => hfar k (fun he => hk (by rw [he]))⟩⟩
 ·rw [List.length_set]
  simp only [List.length_append, List.length_take, List.length_drop]
  rw [hr.1] at hseg ⊢
  omega
 ·rw [List.length_set, ← hn]
  apply List.ext_getElem?
  intro q
  rw [List.getElem?_take, h5]
  rw [zi_ cur.toList seg (i.toNat * d.sz + j) (by rw [Array.length_toList]; omega) q, zi_ inner seg (i.toNat * d.sz + j) (by omega) q]
  have hcur : ∀ q, q < n * d.sz → cur.toList[q]? = inner[q]? := by
   intro q hq
   rw [← ht, List.getElem?_take, if_pos (by rw [← hn]; exact hq)]
  by_cases hq : q < n * d.sz
  ·rw [if_pos hq, hcur q hq]
  rw [if_neg hq, if_neg (by omega), if_neg (by omega), List.getElem?_eq_none (by omega)]
 refine ⟨?_, fun m p hm => ?_⟩
 ·rw [List.length_set]
  simp only [List.length_append, List.length_take, List.length_drop]
  rw [hr.1] at hseg ⊢
  omega
 have hml : m < xs.length := by
  have := (List.getElem?_eq_some_iff.1 hm).1
  rwa [List.length_set] at this
 have hmfit : m * d.sz + d.sz ≤ inner.length := by rw [hr.1, ← Nat.succ_mul]; exact Nat.mul_le_mul_right _ hml
 have hgo : some g = (Value.slice (some ⟨g, 0, none⟩) n cap).ownBlock := by simp [Value.ownBlock]
 by_cases hmi : m = i.toNat
 ·subst hmi
  rw [List.getElem?_set_self (by omega)] at hm
  injection hm with hm
  subst hm
  have hcells : ((inner.take (i.toNat * d.sz + j) ++ seg ++ inner.drop (i.toNat * d.sz + j + seg.length)).drop (i.toNat * d.sz)).take d.sz = c.take j ++ seg ++ c.drop (j + seg.length) := by
   apply List.ext_getElem?
   intro q
   rw [List.getElem?_take, List.getElem?_drop, zi_ inner seg _ (by omega), zi_ c seg j (by omega) q]
   by_cases hq : q < d.sz
   ·rw [if_pos hq, hcin q hq]
    by_cases hq1 : q < j
    ·rw [if_pos (by omega), if_pos hq1]
    rw [if_neg (by omega), if_neg hq1]
    by_cases hq2 : q < j + seg.length
    ·rw [if_pos (by omega), if_pos hq2]
     congr 1
     omega
    rw [if_neg (by omega), if_neg hq2]
   rw [if_neg hq, if_neg (by omega), if_neg (by omega), List.getElem?_eq_none (by omega)]
  rw [hcells]
  refine d.M_mono (fun k hk => ?_) (d.M_move (w1 := W.setCells g (i.toNat * d.sz + j) seg) (fun k hk => hfar k (hokp k hk).2) hM)
  exact ⟨(hokp k hk).1, fun he => (hokp k hk).2 (by rw [← hgo] at he; injection he)⟩
 rw [List.getElem?_set_ne (by omega)] at hm
 have hold := hr.2 m p hm
 have hcells : ((inner.take (i.toNat * d.sz + j) ++ seg ++ inner.drop (i.toNat * d.sz + j + seg.length)).drop (m * d.sz)).take d.sz = (inner.drop (m * d.sz)).take d.sz := by
  apply List.ext_getElem?
  intro q
  rw [List.getElem?_take, List.getElem?_take, List.getElem?_drop, List.getElem?_drop, zi_ inner seg _ (by omega)]
  by_cases hq : q < d.sz
  ·rw [if_pos hq, if_pos hq]
   rcases Nat.lt_or_gt_of_ne hmi with hlt | hgt
   ·have : m * d.sz + d.sz ≤ i.toNat * d.sz := by rw [← Nat.succ_mul]; exact Nat.mul_le_mul_right _ hlt
    rw [if_pos (by omega)]
   have : i.toNat * d.sz + d.sz ≤ m * d.sz := by rw [← Nat.succ_mul]; exact Nat.mul_le_mul_right _ hgt
   rw [if_neg (by omega), if_neg (by omega)]
  rw [if_neg hq, if_neg hq]
 rw [hcells]
 refine d.M_move (fun k hk => hfar k (fun he => hk.2 (by rw [he]; exact hgo))) hold
end
end Kd
namespace Kd
section
variable {α : Type} {F : Kd α → Kd α} {sz : Nat} {E : List Nat} {hs : ∀ n, (upto F sz E n).sz = sz} {hE : ∀ n q, q ∈ (upto F sz E n).E → q ∈ E}
end
end Kd
namespace Kd
theorem jk_ {α : Type} {R : α → List Value → Prop} {size : Nat} {ps qs : List α} {cs ds : List Value} (h : Reps R size ps cs) (h' : Reps R size qs ds) : Reps R size (ps ++ qs) (cs ++ ds) := by
 refine ⟨by rw [List.length_append, List.length_append, h.1, h'.1, Nat.add_mul], fun j p hj => ?_⟩
 rcases Nat.lt_or_ge j ps.length with hlt | hge
 ·rw [List.getElem?_append_left hlt] at hj
  have hle : j * size + size ≤ cs.length := by rw [h.1, ← Nat.succ_mul]; exact Nat.mul_le_mul_right _ hlt
  rw [List.drop_append_of_le_length (by omega), List.take_append_of_le_length (by rw [List.length_drop]; omega)]
  exact h.2 j p hj
 rw [List.getElem?_append_right hge] at hj
 have h2 := h'.2 (j - ps.length) p hj
 have hle : ps.length * size ≤ j * size := Nat.mul_le_mul_right _ hge
 rw [List.drop_append, List.drop_eq_nil_of_le (by rw [h.1]; exact hle), List.nil_append, h.1, ← Nat.sub_mul]
 exact h2
section
variable {P : Program} {ops : Array Oper} {rest : List Oper} {o : Oper} {a : Act} {Q : Exit → Act → World → Prop} {α : Type}
theorem R_append_rows (d : Kd α) {Rr : α → List Value → Prop} {w0 W : World} (base : Nat) (hgd : o.guard = none) (s x : Operand) (t e : TypeId) (z : Value) (bytes : Nat)
  (ho : o.op = .call { callee := .builtin .append, args := #[s, x], argTypes := #[t, t] })
  (ht : P.underlying t = some (.slice e)) (hinfo : (P.info? e).map (fun i => (i.zero, i.size, i.bytes)) = some (some z, d.sz, bytes)) (hz : z.cells.size = d.sz) (hs0 : 0 < d.sz) (hb0 : 0 < bytes)
  (v : Value) (xs ys : List α) (A : Option Addr) (m c : Nat) (ok okp : Nat → Prop) (hs : a.eval s = v) (hx : a.eval x = .slice A m c)
  (HO : d.R e W base ok v xs) (HR : ReadsRow Rr d.sz W A m ys) (hKM : ∀ x cs, Rr x cs → d.M W base okp x cs) (hokp : ∀ k, okp k → ok k ∧ some k ≠ v.ownBlock) (hfresh : ∀ k, W.heap.size ≤ k → ok k)
  (HB : Below base w0 W) (hbase : base ≤ W.heap.size) (hl : (xs.length + m) * bytes ≤ 140737488355328)
  (h : ∀ v1 w1, d.R e w1 base ok v1 (xs ++ ys) → Below base w0 w1 → W.grownBy w1 v.ownBlock → (v1.ownBlock = v.ownBlock ∨ ∃ b, v1.ownBlock = some b ∧ W.heap.size ≤ b) → wpList P ops Q rest (a.put o.dst v1) w1) :
  wpList P ops Q (o :: rest) a W := by
 obtain ⟨i0, hi, hzz⟩ := Option.map_eq_some_iff.1 hinfo
 simp only [Prod.mk.injEq] at hzz
 obtain ⟨hz0, hz1, hz2⟩ := hzz
 have hm : ys.length = m := HR.1
 have hlen : xs.length + m ≤ 140737488355328 := Nat.le_trans (Nat.le_mul_of_pos_right _ hb0) hl
 obtain ⟨hok, inner, hown, hr⟩ := HO
 have hrun : ∃ v1 w1, (Builtin.append_ #[t, t] o.type #[v, .slice A m c]).run P W = .ok v1 w1 ∧ d.R e w1 base ok v1 (xs ++ ys) ∧ W.grownBy w1 v.ownBlock ∧ (v1.ownBlock = v.ownBlock ∨ ∃ b, v1.ownBlock = some b ∧ W.heap.size ≤ b) := by
  rcases A with _ | ad
  ·have h0 : m = 0 := by
    rcases Nat.eq_zero_or_pos m with h0 | h0
    ·exact h0
    obtain ⟨ad, h, _⟩ := HR.2.2 h0
    cases h
   subst h0
   obtain rfl : ys = [] := List.eq_nil_of_length_eq_zero hm
   refine ⟨v, W, ?_, by rw [List.append_nil]; exact ⟨hok, inner, hown, hr⟩, World.grownBy.refl W _, .inl rfl⟩
   rcases hown.2 with ⟨rfl, hn⟩ | ⟨g, cap, cur, rfl, _, _, hnc, _⟩
   ·simp [Builtin.append_, run_underlying ht, sizeOf, typeInfo, hi, Builtin.lenOf, Builtin.firstCells]
   simp [Builtin.append_, run_underlying ht, sizeOf, typeInfo, hi, Builtin.lenOf, Builtin.firstCells, hnc, storeCells]
  obtain ⟨news, hnr, hnc⟩ := ReadsRow.inner_ HR
  have hnM : Reps (d.M W base okp) d.sz ys news := hnr.imp_ (fun p c hp => hKM p c hp)
  have hone : ∀ u ∈ news, u.oneCell' = true := by
   intro u hu
   obtain ⟨q, hq, rfl⟩ := List.mem_iff_getElem.1 hu
   have hql : q / d.sz < ys.length := by
    rw [Nat.div_lt_iff_lt_mul hs0]
    rw [← hnM.1]
    exact hq
   have hc := hnM.2 (q / d.sz) _ (List.getElem?_eq_getElem hql)
   refine d.K_one (d.K_of_M hc) _ ?_
   rw [List.mem_iff_getElem?]
   refine ⟨q % d.sz, ?_⟩
   rw [List.getElem?_take, if_pos (Nat.mod_lt _ hs0), List.getElem?_drop, Nat.mul_comm, Nat.div_add_mod, List.getElem?_eq_getElem hq]
  obtain ⟨v1, w1, hrun, h2, hg, _, hat⟩ := run_append_own_at (P := P) W base t o.type e i0 z d.sz bytes ht hi hz0 hz1 hz2 hz hs0 v xs.length inner hown ad m c news (by rw [hnM.1, hm]) hnc hone (by simp only [maxLen]; omega) hl hbase
  have hat' : v1.ownBlock = v.ownBlock ∨ ∃ b, v1.ownBlock = some b ∧ W.heap.size ≤ b := by
   rcases hat with hat | hat
   ·exact .inl hat
   exact .inr ⟨_, hat, Nat.le_refl _⟩
  have hne : ∀ k, some k ≠ v.ownBlock → k < W.heap.size → some k ≠ v1.ownBlock := by
   intro k hk hlt
   rcases hat' with hat | ⟨b, hb, hle⟩
   ·rw [hat]; exact hk
   rw [hb]
   intro he
   injection he with he
   omega
  have step : ∀ {q : α} {c : List Value} {o : Nat → Prop}, d.M W base o q c → (∀ k, o k → ok k ∧ some k ≠ v.ownBlock) → d.M w1 base (fun k => ok k ∧ some k ≠ v1.ownBlock) q c := by
   intro q c o hq ho
   have h1 := d.M_move (w1 := w1) (fun k hk => hg.block k hk.2.2.1 (ho k hk.1).2) (d.M_bound hq)
   exact d.M_mono (fun k hk => ⟨(ho k hk.1).1, hne k (ho k hk.1).2 hk.2.2.1⟩) h1
  refine ⟨v1, w1, hrun, ⟨fun k hk => ?_, inner ++ news, by rw [List.length_append, hm]; exact h2, jk_ (hr.imp_ (fun _ _ hq => step hq (fun _ hk => hk))) (hnM.imp_ (fun _ _ hq => step hq hokp))⟩, hg, hat'⟩
  rcases hat' with hat | ⟨b, hb, hle⟩
  ·exact hok k (hat ▸ hk)
  rw [hb] at hk
  injection hk with hk
  exact hfresh k (by omega)
 obtain ⟨v1, w1, hr1, h1, hg, hat⟩ := hrun
 refine wpList_plain hgd fun K hK => ?_
 unfold Oper.wp execOp
 simp only [ho, resolve, invoke, builtin, Sem.run_bind, Sem.run_pure, Result.andThen_ok, List.map_toArray, List.map_cons, List.map_nil, hs, hx, hr1]
 exact hK _ _ (h v1 w1 h1 (HB.grown hg hbase (me_ hown)) hg hat)
end
end Kd
theorem bi_ {P : Program} {w : World} {g o : Nat} {e : TypeId} {cur : Array Value} (t : TypeId) (u : Value) (seg : List Value) (hh : w.heap[g]? = some (.cells cur e (0, 0))) (hu : u.cells.toList = seg) (ht : (P.info? t).map (·.size) = some seg.length)
  (hfit : o + seg.length ≤ cur.size) (h1 : ∀ q ∈ seg, q.oneCell' = true) : (Instr.storeAt t (.pointer (some ⟨g, o, none⟩)) u).run P w = .ok () (w.setCells g o seg) := by
 obtain ⟨i, hi, hsz⟩ := Option.map_eq_some_iff.1 ht
 have hc : u.cells.size = i.size := by rw [hsz, ← hu, Array.length_toList]
 have hst := run_storeCells_cells (P := P) g o seg 0 w (fun j hj => by rw [cell_of_row w g _ cur e (0, 0) hh]; simp; omega) (fun j _ => fa_ hh _) h1
 simp only [Nat.add_zero] at hst
 simp [Instr.storeAt, Instr.sureAddr, storeVar, sizeOf, typeInfo, hi, hc, hu, hst]
theorem gate_ {P : Program} {ops : Array Oper} {rest : List Oper} {o : Oper} {a : Act} {Q : Exit → Act → World → Prop} {W : World} (op : Op) (_ho : o.op = op) (h : wpList P ops Q (o :: rest) a W) : wpList P ops Q (o :: rest) a W := h
namespace Kd
section
variable {P : Program} {ops : Array Oper} {rest : List Oper} {o : Oper} {a : Act} {Q : Exit → Act → World → Prop} {α : Type}
end
end Kd
theorem tp_ (a : Addr) (i j : Nat) : (a.add i).add j = a.add (i + j) := by
 unfold Addr.add
 by_cases h1 : i = 0 <;> by_cases h2 : j = 0 <;> simp [h1, h2, Nat.add_assoc]
namespace Kd
section
variable {α : Type} {k : Kd α} {w : World} {A : Option Addr} {xs : List α} {m c : Nat}
end
end Kd
section
variable {P : Program}
end
theorem na_ {w W : World} (h : Below w.heap.size w W) : w.heap.size ≤ W.heap.size := h.size
theorem ma_ {w W w2 : World} (h : Below w.heap.size w W) (k : Below W.heap.size W w2) : Below w.heap.size w w2 := of_ h h.size k
theorem ja_ {w W : World} {g j : Nat} {v : Value} (h : Below w.heap.size w W) (hg : w.heap.size ≤ g) : Below w.heap.size w (W.setCell ⟨g, j, none⟩ v) := h.setCell hg _
theorem ak_ (a : Addr) (i : Nat) : (a.add i).block = a.block := by unfold Addr.add; split <;> rfl
theorem xb_ {W : World} {p a : Addr} (h : a.block ≠ p.block) (u : Value) : (W.setCell p u).cell? a = W.cell? a := by
 have := Below.heap_setCell W p u a.block h
 simp [World.cell?, this]
theorem wc_ {w : World} {g : Nat} {t : TypeId} {cs cs' : Array Value} (h : w.heap[g]? = some (.cells cs t (0, 0))) (i : Nat) (u : Value) (e : cs.setIfInBounds i u = cs') : (w.setCell ⟨g, i, none⟩ u).heap[g]? = some (.cells cs' t (0, 0)) := e ▸ xf_ h i u
theorem da_ {base : Nat} {w W : World} (h : Below base w W) : Below base w W.drew := h.drew
namespace Kd
section
variable {α β : Type} {d : Kd α} {d' : Kd β} {e e' base base' n : Nat} {ok ok' : Nat → Prop} {w W w1 W1 : World} {v u : Value} {xs : List α} {ys : List β} {A : Option Addr} {c : Nat}
end
section
variable {α : Type} {enc : α → Value} {h1 : ∀ x, (enc x).oneCell' = true} {w W : World} {A : Option Addr} {n g : Nat} {xs : List α}
end
end Kd
namespace Kd
section
variable {α : Type} {d : Kd α} {e base g : Nat} {ok : Nat → Prop} {w w1 : World} {v : Value} {xs : List α} {o : Obj}
end
end Kd
section
variable {P : Program} {ops : Array Oper} {rest : List Oper} {o : Oper} {a : Act} {Q : Exit → Act → World → Prop}
theorem mg_ {W : World} (hgd : o.guard = none) {N : Tmp} (_hd : o.dst = some N) {cs : Array Value} {t : TypeId}
  (hrun : (execOp a.eval o).run P W = .ok (.value (.pointer (some ⟨W.heap.size, 0, none⟩))) (W.alloc (.cells cs t (0, 0))))
  (h : ∀ g, g = W.heap.size → ∀ w1, w1.heap[g]? = some (.cells cs t (0, 0)) → Below W.heap.size W w1 → wpList P ops Q rest (a.put o.dst (.pointer (some ⟨g, 0, none⟩))) w1) : wpList P ops Q (o :: rest) a W :=
 Kd.event_run hgd hrun (h _ rfl _ (qb_ W _) (ba_ (Below.refl _ _) _))
theorem Kd.R_append_row {α : Type} (enc : α → Value) (d : α) {h1 : ∀ x : α, (enc x).oneCell' = true} {w0 W : World} (base : Nat) (hgd : o.guard = none) (s x : Operand) (t e : TypeId) (z : Value) (bytes : Nat)
  (ho : o.op = .call { callee := .builtin .append, args := #[s, x], argTypes := #[t, t] })
  (ht : P.underlying t = some (.slice e)) (hinfo : (P.info? e).map (fun i => (i.zero, i.size, i.bytes)) = some (some z, 1, bytes)) (hz : z.cells.size = 1) (hb0 : 0 < bytes)
  (v : Value) (xs ys : List α) (A : Option Addr) (m c : Nat) (ok : Nat → Prop) (hs : a.eval s = v) (hx : a.eval x = .slice A m c) (hfresh : ∀ k, W.heap.size ≤ k → ok k)
  (HO : (Kd.scalar enc h1).R e W base ok v xs) (HR : (Kd.scalar enc h1).C W A m ys) (HB : Below base w0 W) (hbase : base ≤ W.heap.size) (hl : (xs.length + m) * bytes ≤ 140737488355328)
  (h : ∀ v1 w1, (Kd.scalar enc h1).R e w1 base ok v1 (xs ++ ys) → Below base w0 w1 → W.grownBy w1 v.ownBlock → (v1.ownBlock = v.ownBlock ∨ ∃ b, v1.ownBlock = some b ∧ W.heap.size ≤ b) → wpList P ops Q rest (a.put o.dst v1) w1) :
  wpList P ops Q (o :: rest) a W := by
 refine xh_ (w0 := w0) enc d base hgd s x t e z bytes ho ht hinfo hz hb0 h1 v xs ys A m c hs hx (Kd.own_of_R HO) (Kd.reads_of_C (d := d) HR) HB hbase hl ?_
 intro v1 w1 hown hb hg hat
 refine h v1 w1 (Kd.R_of_own hown (fun k hk => ?_)) hb hg hat
 rcases hat with e1 | ⟨b, e1, hbb⟩
 ·exact HO.1 k (by rw [← e1]; exact hk)
 rw [e1] at hk
 injection hk with hk
 subst hk
 exact hfresh _ hbb
end
namespace Kd
section
variable {α : Type} {enc : α → Value} {h1 : ∀ x, (enc x).oneCell' = true} {e base g n cap : Nat} {ok : Nat → Prop} {W : World} {xs : List α}
end
end Kd
section
variable {P : Program} {ops : Array Oper} {rest : List Oper} {o : Oper} {a : Act} {Q : Exit → Act → World → Prop}
theorem eq_ {W w1 : World} (hgd : o.guard = none) {t : TypeId} {p : Tmp} {v : Operand} (_ho : o.op = .store t (.tmp p) v) (hN : o.dst = none)
  (hrun : (execOp a.eval o).run P W = .ok .skip w1) (h : ∀ w', w' = w1 → wpList P ops Q rest a w') : wpList P ops Q (o :: rest) a W := by
 refine wpList_plain hgd fun K hK => ?_
 unfold Oper.wp
 rw [hrun]
 show K (a.put o.dst undef) w1
 rw [hN]
 exact hK _ _ (h _ rfl)
end
namespace Kd
section
variable {α : Type} {enc : α → Value} {h1 : ∀ x, (enc x).oneCell' = true} {e base g n cap : Nat} {ok : Nat → Prop} {W : World} {xs : List α}
end
end Kd
section
variable {P : Program} {ops : Array Oper} {rest : List Oper} {o : Oper} {a : Act} {Q : Exit → Act → World → Prop} {W : World}
theorem pb_ {N : Tmp} (_hN : o.dst = some N) (h : wpList P ops Q (o :: rest) a W) : wpList P ops Q (o :: rest) a W := h
theorem bt_ {t : TypeId} {p : Tmp} {v : Operand} (_ho : o.op = .store t (.tmp p) v) (h : wpList P ops Q (o :: rest) a W) : wpList P ops Q (o :: rest) a W := h
end
section
variable {P : Program} {ops : Array Oper} {o : Oper} {a : Act} {Q : Exit → Act → World → Prop} {Kc : Act → World → Prop}
theorem om_ {W w1 : World} {v : Value} (hw : Region.wanted o (yielded ops a.tmps) = true) (hrun : (execOp a.eval o).run P W = .ok (.value v) w1) (h : Kc (a.put o.dst v) w1) : if Region.wanted o (yielded ops a.tmps) = true then Oper.wp P o a W Kc Q else Kc (a.put o.dst undef) W := by
 rw [if_pos hw]
 unfold Oper.wp
 rw [hrun]
 exact h
theorem pm_ {W : World} (hw : Region.wanted o (yielded ops a.tmps) = true) {N : Tmp} (_hd : o.dst = some N) {cs : Array Value} {t : TypeId}
  (hrun : (execOp a.eval o).run P W = .ok (.value (.pointer (some ⟨W.heap.size, 0, none⟩))) (W.alloc (.cells cs t (0, 0))))
  (h : ∀ g, g = W.heap.size → ∀ w1, w1.heap[g]? = some (.cells cs t (0, 0)) → Below W.heap.size W w1 → Kc (a.put o.dst (.pointer (some ⟨g, 0, none⟩))) w1) : if Region.wanted o (yielded ops a.tmps) = true then Oper.wp P o a W Kc Q else Kc (a.put o.dst undef) W :=
 om_ hw hrun (h _ rfl _ (qb_ W _) (ba_ (Below.refl _ _) _))
namespace Kd
variable {α : Type}
theorem R_lit_step (d : Kd α) {w0 W : World} (base e : Nat) (hw : Region.wanted o (yielded ops a.tmps) = true) {N : Tmp} (_hd : o.dst = some N) {xs : List α} {inner : List Value} {ok okp : Nat → Prop}
  (hrun : (execOp a.eval o).run P W = .ok (.value (.slice (some ⟨W.heap.size, 0, none⟩) xs.length xs.length)) (W.alloc (.cells inner.toArray e)))
  (hrep : Reps (d.M W base okp) d.sz xs inner) (hok : ∀ k, okp k → ok k) (hfresh : ok W.heap.size) (HB : Below base w0 W) (hbase : base ≤ W.heap.size) (hm : xs.length ≤ 9223372036854775807)
  (h : ∀ v1 w1, d.R e w1 base ok v1 xs → Below base w0 w1 → W.grownBy w1 none → (∃ b, v1.ownBlock = some b ∧ W.heap.size ≤ b) → Kc (a.put o.dst v1) w1) : if Region.wanted o (yielded ops a.tmps) = true then Oper.wp P o a W Kc Q else Kc (a.put o.dst undef) W := by
 refine om_ hw hrun (h _ _ ⟨fun k hk => ?_, inner, ?_, ?_⟩ (HB.alloc hbase _) (World.grownBy_alloc W _ none) ⟨W.heap.size, by simp [Value.ownBlock], Nat.le_refl _⟩)
 ·have : W.heap.size = k := by simpa [Value.ownBlock] using hk
  subst this
  exact hfresh
 ·have h2 := World.ownsRow_lit (base := base) (e := e) (size := d.sz) W inner.toArray xs.length hbase (by simpa [maxLen] using hm) (by simpa using hrep.1)
  simpa using h2
 refine hrep.imp_ (fun p c hp => d.M_mono (fun k hk => ⟨hok k hk.1, fun he => ?_⟩) (pu_ (d.M_bound hp) (ba_ (Below.refl _ _) _)))
 have h3 : k = W.heap.size := by simpa [Value.ownBlock] using he
 have := hk.2.2.1
 omega
theorem R_append_rows_step (d : Kd α) {Rr : α → List Value → Prop} {w0 W : World} (base : Nat) (hw : Region.wanted o (yielded ops a.tmps) = true) (s x : Operand) (t e : TypeId) (z : Value) (bytes : Nat)
  (ho : o.op = .call { callee := .builtin .append, args := #[s, x], argTypes := #[t, t] })
  (ht : P.underlying t = some (.slice e)) (hinfo : (P.info? e).map (fun i => (i.zero, i.size, i.bytes)) = some (some z, d.sz, bytes)) (hz : z.cells.size = d.sz) (hs0 : 0 < d.sz) (hb0 : 0 < bytes)
  (v : Value) (xs ys : List α) (A : Option Addr) (m c : Nat) (ok okp : Nat → Prop) (hs : a.eval s = v) (hx : a.eval x = .slice A m c)
  (HO : d.R e W base ok v xs) (HR : ReadsRow Rr d.sz W A m ys) (hKM : ∀ x cs, Rr x cs → d.M W base okp x cs) (hokp : ∀ k, okp k → ok k ∧ some k ≠ v.ownBlock) (hfresh : ∀ k, W.heap.size ≤ k → ok k)
  (HB : Below base w0 W) (hbase : base ≤ W.heap.size) (hl : (xs.length + m) * bytes ≤ 140737488355328)
  (h : ∀ v1 w1, d.R e w1 base ok v1 (xs ++ ys) → Below base w0 w1 → W.grownBy w1 v.ownBlock → (v1.ownBlock = v.ownBlock ∨ ∃ b, v1.ownBlock = some b ∧ W.heap.size ≤ b) → Kc (a.put o.dst v1) w1) :
  if Region.wanted o (yielded ops a.tmps) = true then Oper.wp P o a W Kc Q else Kc (a.put o.dst undef) W := by
 obtain ⟨i0, hi, hzz⟩ := Option.map_eq_some_iff.1 hinfo
 simp only [Prod.mk.injEq] at hzz
 obtain ⟨hz0, hz1, hz2⟩ := hzz
 have hm : ys.length = m := HR.1
 have hlen : xs.length + m ≤ 140737488355328 := Nat.le_trans (Nat.le_mul_of_pos_right _ hb0) hl
 obtain ⟨hok, inner, hown, hr⟩ := HO
 have hrun : ∃ v1 w1, (Builtin.append_ #[t, t] o.type #[v, .slice A m c]).run P W = .ok v1 w1 ∧ d.R e w1 base ok v1 (xs ++ ys) ∧ W.grownBy w1 v.ownBlock ∧ (v1.ownBlock = v.ownBlock ∨ ∃ b, v1.ownBlock = some b ∧ W.heap.size ≤ b) := by
  rcases A with _ | ad
  ·have h0 : m = 0 := by
    rcases Nat.eq_zero_or_pos m with h0 | h0
    ·exact h0
    obtain ⟨ad, h, _⟩ := HR.2.2 h0
    cases h
   subst h0
   obtain rfl : ys = [] := List.eq_nil_of_length_eq_zero hm
   refine ⟨v, W, ?_, by rw [List.append_nil]; exact ⟨hok, inner, hown, hr⟩, World.grownBy.refl W _, .inl rfl⟩
   rcases hown.2 with ⟨rfl, hn⟩ | ⟨g, cap, cur, rfl, _, _, hnc, _⟩
   ·simp [Builtin.append_, run_underlying ht, sizeOf, typeInfo, hi, Builtin.lenOf, Builtin.firstCells]
   simp [Builtin.append_, run_underlying ht, sizeOf, typeInfo, hi, Builtin.lenOf, Builtin.firstCells, hnc, storeCells]
  obtain ⟨news, hnr, hnc⟩ := ReadsRow.inner_ HR
  have hnM : Reps (d.M W base okp) d.sz ys news := hnr.imp_ (fun p c hp => hKM p c hp)
  have hone : ∀ u ∈ news, u.oneCell' = true := by
   intro u hu
   obtain ⟨q, hq, rfl⟩ := List.mem_iff_getElem.1 hu
   have hql : q / d.sz < ys.length := by
    rw [Nat.div_lt_iff_lt_mul hs0]
    rw [← hnM.1]
    exact hq
   have hc := hnM.2 (q / d.sz) _ (List.getElem?_eq_getElem hql)
   refine d.K_one (d.K_of_M hc) _ ?_
   rw [List.mem_iff_getElem?]
   refine ⟨q % d.sz, ?_⟩
   rw [List.getElem?_take, if_pos (Nat.mod_lt _ hs0), List.getElem?_drop, Nat.mul_comm, Nat.div_add_mod, List.getElem?_eq_getElem hq]
  obtain ⟨v1, w1, hrun, h2, hg, _, hat⟩ := run_append_own_at (P := P) W base t o.type e i0 z d.sz bytes ht hi hz0 hz1 hz2 hz hs0 v xs.length inner hown ad m c news (by rw [hnM.1, hm]) hnc hone (by simp only [maxLen]; omega) hl hbase
  have hat' : v1.ownBlock = v.ownBlock ∨ ∃ b, v1.ownBlock = some b ∧ W.heap.size ≤ b := by
   rcases hat with hat | hat
   ·exact .inl hat
   exact .inr ⟨_, hat, Nat.le_refl _⟩
  have hne : ∀ k, some k ≠ v.ownBlock → k < W.heap.size → some k ≠ v1.ownBlock := by
   intro k hk hlt
   rcases hat' with hat | ⟨b, hb, hle⟩
   ·rw [hat]; exact hk
   rw [hb]
   intro he
   injection he with he
   omega
  have step : ∀ {q : α} {c : List Value} {o : Nat → Prop}, d.M W base o q c → (∀ k, o k → ok k ∧ some k ≠ v.ownBlock) → d.M w1 base (fun k => ok k ∧ some k ≠ v1.ownBlock) q c := by
   intro q c o hq ho
   have h1 := d.M_move (w1 := w1) (fun k hk => hg.block k hk.2.2.1 (ho k hk.1).2) (d.M_bound hq)
   exact d.M_mono (fun k hk => ⟨(ho k hk.1).1, hne k (ho k hk.1).2 hk.2.2.1⟩) h1
  refine ⟨v1, w1, hrun, ⟨fun k hk => ?_, inner ++ news, by rw [List.length_append, hm]; exact h2, jk_ (hr.imp_ (fun _ _ hq => step hq (fun _ hk => hk))) (hnM.imp_ (fun _ _ hq => step hq hokp))⟩, hg, hat'⟩
  rcases hat' with hat | ⟨b, hb, hle⟩
  ·exact hok k (hat ▸ hk)
  rw [hb] at hk
  injection hk with hk
  exact hfresh k (by omega)
 obtain ⟨v1, w1, hr1, h1, hg, hat⟩ := hrun
 rw [if_pos hw]
 unfold Oper.wp execOp
 simp only [ho, resolve, invoke, builtin, Sem.run_bind, Sem.run_pure, Result.andThen_ok, List.map_toArray, List.map_cons, List.map_nil, hs, hx, hr1]
 exact h v1 w1 h1 (HB.grown hg hbase (me_ hown)) hg hat
end Kd
end
section
variable {P : Program} {tmps : Array Value} {w : World}
end
namespace Kd
section
variable {P : Program} {α : Type}
end
section
variable {P : Program} {ops : Array Oper} {rest : List Oper} {o : Oper} {a : Act} {Q : Exit → Act → World → Prop} {Kc : Act → World → Prop} {α : Type}
end
end Kd
end Go.Proofs.YtjfbfhoipgldgaaGreatW.PrintWords
end
section
namespace Go.Proofs.YtjfbfhoipgldgaaGreatW.PrintLast
section
variable {P : Program} {ops : Array Oper} {Q : Exit → Act → World → Prop} {md : Region.Mode} {S : World → Prop} {ds : List Nat}
def Region.reachB (md : Region.Mode) (ops : Array Oper) (i : Nat) : Nat → Nat → Bool
 | 0, _ => false
 | fuel + 1, d => match ops[d]? with
  | some o => o.after.any fun e => Region.binds md e && (e.on == i || Region.reachB md ops i fuel e.on)
  | none => false
def Region.closedB (md : Region.Mode) (ops : Array Oper) (listed : Array Bool) : Bool :=
 (List.range ops.size).all fun j => !listed.getD j false || match ops[j]? with
  | some o => o.after.all fun e => !Region.binds md e || listed.getD e.on false
  | none => true
def Region.lastB (md : Region.Mode) (ops : Array Oper) (listed : Array Bool) (ds : List Nat) (i : Nat) : Bool :=
 ds.all fun d => listed.getD d true || Region.reachB md ops i ops.size d
def ListedClosed (md : Region.Mode) (ops : Array Oper) (listed : Array Bool) : Prop :=
 ∀ j oj, ops[j]? = some oj → listed.getD j false = true → ∀ e ∈ oj.after, Region.binds md e = true → listed.getD e.on false = true
theorem Region.closedB_spec {listed : Array Bool} (h : Region.closedB md ops listed = true) : ListedClosed md ops listed := by
 intro j oj hj hl e he hb
 have hlt : j < ops.size := (Array.getElem?_eq_some_iff.1 hj).1
 have h1 := List.all_eq_true.1 h j (List.mem_range.2 hlt)
 simp only [hl, hj, Bool.not_true, Bool.false_or] at h1
 have h2 := Array.all_eq_true_iff_forall_mem.1 h1 e he
 simpa [hb] using h2
theorem ListedClosed.set {listed : Array Bool} {i : Nat} (h : ListedClosed md ops listed) (hi : i ∈ Region.ready md ops listed) : ListedClosed md ops (listed.setIfInBounds i true) := by
 obtain ⟨_, oi, hoi, hall⟩ := mem_ready.1 hi
 intro j oj hj hl e he hb
 by_cases hij : i = j
 ·subst hij
  have : oj = oi := Option.some.inj (hj.symm.trans hoi)
  subst this
  exact getD_set_true (hall e he hb)
 rw [getD_set_ne false hij] at hl
 exact getD_set_true (h j oj hj hl e he hb)
theorem Region.reach_listed {listed : Array Bool} {i : Nat} (hc : ListedClosed md ops listed) : ∀ (fuel d : Nat), Region.reachB md ops i fuel d = true → listed.getD d false = true → listed.getD i false = true
 | 0, _, h, _ => by simp [Region.reachB] at h
 | fuel + 1, d, h, hl => by
  unfold Region.reachB at h
  cases ho : ops[d]? with
  | none => rw [ho] at h; simp at h
  | some o =>
   rw [ho] at h
   obtain ⟨e, he, h1⟩ := Array.any_eq_true'.1 h
   simp only [Bool.and_eq_true, Bool.or_eq_true, beq_iff_eq] at h1
   have hle := hc d o ho hl e he h1.1
   rcases h1.2 with h2 | h2
   ·rw [← h2]; exact hle
   exact Region.reach_listed hc fuel e.on h2 hle
theorem Region.reach_not_ready {listed : Array Bool} {i d fuel : Nat} (hc : ListedClosed md ops listed) (hr : Region.reachB md ops i fuel d = true) (hun : listed.getD i true = false) : d ∉ Region.ready md ops listed := by
 intro hd
 obtain ⟨_, o, ho, hall⟩ := mem_ready.1 hd
 have hi : listed.getD i false = true := by
  cases fuel with
  | zero => simp [Region.reachB] at hr
  | succ n =>
   unfold Region.reachB at hr
   rw [ho] at hr
   obtain ⟨e, he, h1⟩ := Array.any_eq_true'.1 hr
   simp only [Bool.and_eq_true, Bool.or_eq_true, beq_iff_eq] at h1
   have hle := hall e he h1.1
   rcases h1.2 with h2 | h2
   ·rw [← h2]; exact hle
   exact Region.reach_listed hc n e.on h2 hle
 rcases Nat.lt_or_ge i listed.size with h' | h'
 ·simp [h'] at hun hi
  rw [hun] at hi
  cases hi
 simp [Array.getElem?_eq_none h'] at hun
def za_ (P : Program) (md : Region.Mode) (ops : Array Oper) (Q : Exit → Act → World → Prop) (S : World → Prop) (ds : List Nat) : Nat → Array Bool → Act → World → Prop
 | 0, listed, a, w => Region.ready md ops listed = [] ∧ Q .normal a w
 | fuel + 1, listed, a, w =>
  (Region.ready md ops listed = [] → Q .normal a w) ∧
  ∀ i ∈ Region.ready md ops listed, wpOp P ops Q i (fun a' w' => (i ∉ ds → S w → S w') ∧ za_ P md ops Q S ds fuel (listed.setIfInBounds i true) a' w') a w
theorem yh_ : ∀ (fuel : Nat) (listed : Array Bool) (a : Act) (w : World), za_ P md ops Q S ds fuel listed a w → wpAny P md ops Q fuel listed a w
 | 0, _, _, _, h => h
 | fuel + 1, _, _, _, h => ⟨h.1, fun i hi => wpOp_mono (fun a' w' h' => yh_ fuel _ a' w' h'.2) (h.2 i hi)⟩
theorem zk_ {i : Nat} {oi : Oper} {v : Value} (hi : ops[i]? = some oi) (hsel : ∀ (j : Nat) (o : Oper) cs b, ops[j]? = some o → o.op ≠ .select cs b)
  (hQ : ∀ c a w, Q (.panic c) (a.put oi.dst v) w → Q (.panic c) a w) (n : Nat) :
  ∀ (fuel : Nat) (listed : Array Bool) (a : Act) (w : World),
   (∀ j oj, ops[j]? = some oj → j ≠ i → listed.getD j true = false → (∀ e ∈ oj.after, Region.binds md e = true → e.on ≠ i) → oi.apart ops oj = true) →
   ListedClosed md ops listed → (∀ d ∈ ds, listed.getD d true = false → Region.reachB md ops i n d = true) →
   i ∈ Region.ready md ops listed → YieldsIf P ops S oi v a → S w →
   za_ P md ops Q S ds fuel (listed.setIfInBounds i true) (a.put oi.dst v) w → za_ P md ops Q S ds (fuel + 1) listed a w := by
 intro fuel
 induction fuel with
 | zero =>
  intro listed a w _ _ _ hr hy hS H
  refine ⟨fun h => (by rw [h] at hr; cases hr), fun j hj => ?_⟩
  by_cases hji : j = i
  ·subst hji; exact hy.wpOp hi hS ⟨fun _ h => h, H⟩
  ·have := ready_mono hj hji
   rw [H.1] at this
   cases this
 | succ fuel ih =>
  intro listed a w hfree hc hd hr hy hS H
  refine ⟨fun h => (by rw [h] at hr; cases hr), fun j hj => ?_⟩
  by_cases hji : j = i
  ·subst hji; exact hy.wpOp hi hS ⟨fun _ h => h, H⟩
  have h1 := H.2 j (ready_mono hj hji)
  obtain ⟨hjun, oj, hoj, hall⟩ := mem_ready.1 hj
  have hiun := (mem_ready.1 hr).1
  have hnot : ∀ e ∈ oj.after, Region.binds md e = true → e.on ≠ i := fun e he hb heq => by
   have h1 := hall e he hb
   rw [heq] at h1
   rcases Nat.lt_or_ge i listed.size with h' | h'
   ·simp [h'] at hiun h1; rw [hiun] at h1; cases h1
   simp [Array.getElem?_eq_none h'] at h1
  have hjd : j ∉ ds := fun hm => Region.reach_not_ready hc (hd j hm hjun) hiun hj
  have h2 := wpOp_putIf hoj (hfree j oj hoj hji hjun hnot) (fun cs b => hsel i oi cs b hi) (fun cs b => hsel j oj cs b hoj) hQ hy h1
  have hfree' : ∀ k ok, ops[k]? = some ok → k ≠ i → (listed.setIfInBounds j true).getD k true = false →
    (∀ e ∈ ok.after, Region.binds md e = true → e.on ≠ i) → oi.apart ops ok = true := fun k ok hk hki hun hno => by
   refine hfree k ok hk hki ?_ hno
   by_cases hjk : j = k
   ·subst hjk; exact hjun
   rw [getD_set_ne true hjk] at hun; exact hun
  have hd' : ∀ d ∈ ds, (listed.setIfInBounds j true).getD d true = false → Region.reachB md ops i n d = true := fun d hm hun => by
   refine hd d hm ?_
   by_cases hjk : j = d
   ·subst hjk; exact hjun
   rw [getD_set_ne true hjk] at hun; exact hun
  refine wpOp_mono (fun a' w' h3 => ⟨h3.2.1, ih (listed.setIfInBounds j true) a' w' hfree' (hc.set hj) hd' (ready_mono hr (Ne.symm hji)) h3.1 (h3.2.1 hjd hS) ?_⟩) h2
  rw [Array.setIfInBounds_comm _ _ hji]
  exact h3.2.2
theorem an_ {i : Nat} {oi : Oper} {v : Value} (hi : ops[i]? = some oi) (hsel : ∀ (j : Nat) (o : Oper) cs b, ops[j]? = some o → o.op ≠ .select cs b)
  (hQ : ∀ c a w, Q (.panic c) (a.put oi.dst v) w → Q (.panic c) a w) :
  ∀ (fuel : Nat) (listed : Array Bool) (a : Act) (w : World),
   (∀ j oj, ops[j]? = some oj → j ≠ i → listed.getD j true = false → (∀ e ∈ oj.after, Region.binds md e = true → e.on ≠ i) → oi.apart ops oj = true) →
   i ∈ Region.ready md ops listed → Yields P ops oi v a →
   za_ P md ops Q S ds fuel (listed.setIfInBounds i true) (a.put oi.dst v) w → za_ P md ops Q S ds (fuel + 1) listed a w := by
 intro fuel
 induction fuel with
 | zero =>
  intro listed a w _ hr hy H
  refine ⟨fun h => (by rw [h] at hr; cases hr), fun j hj => ?_⟩
  by_cases hji : j = i
  ·subst hji; exact (hy.yieldsIf (S := fun _ => True)).wpOp hi trivial ⟨fun _ h => h, H⟩
  ·have := ready_mono hj hji
   rw [H.1] at this
   cases this
 | succ fuel ih =>
  intro listed a w hfree hr hy H
  refine ⟨fun h => (by rw [h] at hr; cases hr), fun j hj => ?_⟩
  by_cases hji : j = i
  ·subst hji; exact (hy.yieldsIf (S := fun _ => True)).wpOp hi trivial ⟨fun _ h => h, H⟩
  have h1 := H.2 j (ready_mono hj hji)
  obtain ⟨hjun, oj, hoj, hall⟩ := mem_ready.1 hj
  have hiun := (mem_ready.1 hr).1
  have hnot : ∀ e ∈ oj.after, Region.binds md e = true → e.on ≠ i := fun e he hb heq => by
   have h1 := hall e he hb
   rw [heq] at h1
   rcases Nat.lt_or_ge i listed.size with h' | h'
   ·simp [h'] at hiun h1; rw [hiun] at h1; cases h1
   simp [Array.getElem?_eq_none h'] at h1
  have h2 := wpOp_put hoj (hfree j oj hoj hji hjun hnot) (fun cs b => hsel i oi cs b hi) (fun cs b => hsel j oj cs b hoj) hQ hy h1
  have hfree' : ∀ k ok, ops[k]? = some ok → k ≠ i → (listed.setIfInBounds j true).getD k true = false →
    (∀ e ∈ ok.after, Region.binds md e = true → e.on ≠ i) → oi.apart ops ok = true := fun k ok hk hki hun hno => by
   refine hfree k ok hk hki ?_ hno
   by_cases hjk : j = k
   ·subst hjk; exact hjun
   rw [getD_set_ne true hjk] at hun; exact hun
  refine wpOp_mono (fun a' w' h3 => ⟨h3.2.1, ih (listed.setIfInBounds j true) a' w' hfree' (ready_mono hr (Ne.symm hji)) h3.1 ?_⟩) h2
  rw [Array.setIfInBounds_comm _ _ hji]
  exact h3.2.2
theorem kl_ {i : Nat} {oi : Oper} {v : Value} {fuel : Nat} {listed : Array Bool} {a : Act} {w : World} (hi : ops[i]? = some oi)
  (hs : Region.noSelect ops = true) (hf : Region.free md ops listed i = true) (hr : (Region.ready md ops listed).contains i = true)
  (hc : Region.closedB md ops listed = true) (hl : Region.lastB md ops listed ds i = true)
  (hQ : ∀ c a w, Q (.panic c) (a.put oi.dst v) w → Q (.panic c) a w) (hy : YieldsIf P ops S oi v a) (hS : S w)
  (h : za_ P md ops Q S ds fuel (listed.setIfInBounds i true) (a.put oi.dst v) w) : za_ P md ops Q S ds (fuel + 1) listed a w :=
 zk_ hi (Region.noSelect_spec hs) hQ ops.size fuel listed a w (Region.free_spec hi hf) (Region.closedB_spec hc)
  (fun d hm hun => by have := List.all_eq_true.1 hl d hm; rw [hun] at this; simpa using this) (by simpa using hr) hy hS h
theorem bn_ {rs : List Nat} {fuel : Nat} {listed : Array Bool} {a : Act} {w : World} (hr : Region.ready md ops listed = rs) (hne : rs ≠ [])
  (h : ∀ i ∈ rs, wpOp P ops Q i (fun a' w' => (i ∉ ds → S w → S w') ∧ za_ P md ops Q S ds fuel (listed.setIfInBounds i true) a' w') a w) : za_ P md ops Q S ds (fuel + 1) listed a w :=
 ⟨fun h0 => absurd (hr ▸ h0) hne, hr ▸ h⟩
theorem ll_ {listed : Array Bool} {a : Act} {w : World} (hr : Region.ready md ops listed = []) (h : Q .normal a w) :
  ∀ fuel, za_ P md ops Q S ds fuel listed a w
 | 0 => ⟨hr, h⟩
 | _ + 1 => ⟨fun _ => h, by rw [hr]; simp⟩
theorem jl_ {id : Nat} {a : Act} {w : World} (hm : P.follows .mixedOrders = true)
  (h : za_ P .any ops Q S ds ops.size (Array.replicate ops.size false) a { w with drawn := w.drawn + 1 }) : (Code.region id ops true).wp P Q a w :=
 wp_region_any hm (yh_ _ _ _ _ h)
end
section
variable {P : Program} {ops : Array Oper} {Q : Exit → Act → World → Prop} {md : Region.Mode} {S : World → Prop} {ds : List Nat}
def AllReadyL (P : Program) (md : Region.Mode) (ops : Array Oper) (Q : Exit → Act → World → Prop) (S : World → Prop) (ds : List Nat) (fuel : Nat) (listed : Array Bool) (a : Act) (w : World) (rs : List Nat) : Prop :=
 ∀ i ∈ rs, wpOp P ops Q i (fun a' w' => (i ∉ ds → S w → S w') ∧ za_ P md ops Q S ds fuel (listed.setIfInBounds i true) a' w') a w
theorem AllReadyL.nil {fuel : Nat} {listed : Array Bool} {a : Act} {w : World} : AllReadyL P md ops Q S ds fuel listed a w [] := fun _ h => by cases h
theorem AllReadyL.cons {fuel : Nat} {listed : Array Bool} {a : Act} {w : World} {i : Nat} {o : Oper} {rs : List Nat} (ho : ops[i]? = some o) (hd : i ∉ ds)
  (h : ∀ K' : Act → World → Prop, Shut (∀ a w, S w → (S w → za_ P md ops Q S ds fuel (listed.setIfInBounds i true) a w) → K' a w) → if Region.wanted o (yielded ops a.tmps) = true then Oper.wp P o a w K' Q else K' (a.put o.dst undef) w)
  (hs : AllReadyL P md ops Q S ds fuel listed a w rs) : AllReadyL P md ops Q S ds fuel listed a w (i :: rs) := fun j hj => by
 rcases List.mem_cons.1 hj with rfl | hj
 ·exact wpOp_step ho (fun K' hK => h K' (fun a w hS hW => hK a w ⟨fun _ _ => hS, hW hS⟩))
 exact hs j hj
theorem AllReadyL.cons_last {fuel : Nat} {listed : Array Bool} {a : Act} {w : World} {i : Nat} {o : Oper} {rs : List Nat} (ho : ops[i]? = some o) (hd : i ∈ ds)
  (h : ∀ K' : Act → World → Prop, Shut (∀ a w, za_ P md ops Q S ds fuel (listed.setIfInBounds i true) a w → K' a w) → if Region.wanted o (yielded ops a.tmps) = true then Oper.wp P o a w K' Q else K' (a.put o.dst undef) w)
  (hs : AllReadyL P md ops Q S ds fuel listed a w rs) : AllReadyL P md ops Q S ds fuel listed a w (i :: rs) := fun j hj => by
 rcases List.mem_cons.1 hj with rfl | hj
 ·exact wpOp_step ho (fun K' hK => h K' (fun a w hW => hK a w ⟨fun hn => absurd hd hn, hW⟩))
 exact hs j hj
theorem ze_ {rs : List Nat} {fuel : Nat} {listed : Array Bool} {a : Act} {w : World} (hr : Region.ready md ops listed = rs) (hne : rs ≠ [])
  (h : AllReadyL P md ops Q S ds fuel listed a w rs) : za_ P md ops Q S ds (fuel + 1) listed a w := bn_ hr hne h
theorem td_ {id n : Nat} {a : Act} {w : World} (l : Array Bool) (hm : P.follows .mixedOrders = true) (hn : ops.size = n) (hl : Array.replicate n false = l) (hS : S w.drew)
  (h : S w.drew → za_ P .any ops Q S ds n l a w.drew) : (Code.region id ops true).wp P Q a w := by
 subst hn
 subst hl
 exact jl_ hm (h hS)
def bq_ (md : Region.Mode) (ops : Array Oper) (ds : List Nat) (l l' : Array Bool) (i : Nat) : Bool :=
 Region.noSelect ops && Region.free md ops l i && (Region.ready md ops l).contains i && Region.closedB md ops l && Region.lastB md ops l ds i && (l.setIfInBounds i true == l')
theorem take_ {i : Nat} {N : Option Tmp} {oi : Oper} {v : Value} {fuel : Nat} {l : Array Bool} {a : Act} {w : World} (l' : Array Bool) (hi : ops[i]? = some oi) (hN : oi.dst = N) (hc : bq_ md ops ds l l' i = true)
  (hQ : ∀ c a w, Q (.panic c) (a.put oi.dst v) w → Q (.panic c) a w) (hy : YieldsIf P ops S oi v a) (hS : S w) {a' : Act} (ha : a.put N v = a')
  (h : za_ P md ops Q S ds fuel l' a' w) : za_ P md ops Q S ds (fuel + 1) l a w := by
 subst ha
 subst hN
 simp only [bq_, Bool.and_eq_true, beq_iff_eq] at hc
 obtain ⟨⟨⟨⟨⟨h1, h2⟩, h3⟩, h4⟩, h5⟩, h6⟩ := hc
 subst h6
 exact kl_ hi h1 h2 h3 h4 h5 hQ hy hS h
def anyB (md : Region.Mode) (ops : Array Oper) (l l' : Array Bool) (i : Nat) : Bool :=
 Region.noSelect ops && Region.free md ops l i && (Region.ready md ops l).contains i && (l.setIfInBounds i true == l')
theorem oa_ {i : Nat} {N : Option Tmp} {oi : Oper} {v : Value} {fuel : Nat} {l : Array Bool} {a : Act} {w : World} (l' : Array Bool) (hi : ops[i]? = some oi) (hN : oi.dst = N) (hc : anyB md ops l l' i = true)
  (hQ : ∀ c a w, Q (.panic c) (a.put oi.dst v) w → Q (.panic c) a w) (hy : Yields P ops oi v a) {a' : Act} (ha : a.put N v = a')
  (h : za_ P md ops Q S ds fuel l' a' w) : za_ P md ops Q S ds (fuel + 1) l a w := by
 subst ha
 subst hN
 simp only [anyB, Bool.and_eq_true, beq_iff_eq] at hc
 obtain ⟨⟨⟨h1, h2⟩, h3⟩, h6⟩ := hc
 subst h6
 exact an_ hi (Region.noSelect_spec h1) hQ fuel l a w (Region.free_spec hi h2) (by simpa using h3) hy h
def gd_ (md : Region.Mode) (ops : Array Oper) (l l' : Array Bool) (i : Nat) : Bool := (Region.ready md ops l == [i]) && (l.setIfInBounds i true == l')
theorem one_ {i : Nat} {N : Option Tmp} {oi : Oper} {fuel : Nat} {l : Array Bool} {a : Act} {w : World} (l' : Array Bool) (hi : ops[i]? = some oi) (hN : oi.dst = N) (hc : gd_ md ops l l' i = true) (hd : i ∉ ds)
  (h : ∀ K : Act → World → Prop, Shut (∀ a' w', S w' → (S w' → za_ P md ops Q S ds fuel l' a' w') → K a' w') → if Region.wanted oi (yielded ops a.tmps) = true then Oper.wp P oi a w K Q else K (a.put N undef) w) :
  za_ P md ops Q S ds (fuel + 1) l a w := by
 subst hN
 simp only [gd_, Bool.and_eq_true, beq_iff_eq] at hc
 obtain ⟨h1, h2⟩ := hc
 subst h2
 exact ze_ h1 (by simp) (AllReadyL.cons hi hd (fun K hK => h K hK) AllReadyL.nil)
theorem gg_ {i : Nat} {N : Option Tmp} {oi : Oper} {fuel : Nat} {l : Array Bool} {a : Act} {w : World} (l' : Array Bool) (hi : ops[i]? = some oi) (hN : oi.dst = N) (hc : gd_ md ops l l' i = true) (hd : i ∈ ds)
  (h : ∀ K : Act → World → Prop, Shut (∀ a' w', za_ P md ops Q S ds fuel l' a' w' → K a' w') → if Region.wanted oi (yielded ops a.tmps) = true then Oper.wp P oi a w K Q else K (a.put N undef) w) :
  za_ P md ops Q S ds (fuel + 1) l a w := by
 subst hN
 simp only [gd_, Bool.and_eq_true, beq_iff_eq] at hc
 obtain ⟨h1, h2⟩ := hc
 subst h2
 exact ze_ h1 (by simp) (AllReadyL.cons_last hi hd (fun K hK => h K hK) AllReadyL.nil)
theorem ie_ {l : Array Bool} {a : Act} {w : World} {n : Nat} (hr : (Region.ready md ops l == []) = true) (h : Q .normal a w) : za_ P md ops Q S ds n l a w := ll_ (by simpa using hr) h n
theorem two_ {i j : Nat} {Ni Nj : Option Tmp} {oi oj : Oper} {fuel : Nat} {l : Array Bool} {a : Act} {w : World} (li lj : Array Bool) (hi : ops[i]? = some oi) (hj : ops[j]? = some oj) (hNi : oi.dst = Ni) (hNj : oj.dst = Nj)
  (hc : (Region.ready md ops l == [i, j] && l.setIfInBounds i true == li && l.setIfInBounds j true == lj) = true) (hdi : i ∉ ds) (hdj : j ∉ ds)
  (h1 : ∀ K : Act → World → Prop, Shut (∀ a' w', S w' → (S w' → za_ P md ops Q S ds fuel li a' w') → K a' w') → if Region.wanted oi (yielded ops a.tmps) = true then Oper.wp P oi a w K Q else K (a.put Ni undef) w)
  (h2 : ∀ K : Act → World → Prop, Shut (∀ a' w', S w' → (S w' → za_ P md ops Q S ds fuel lj a' w') → K a' w') → if Region.wanted oj (yielded ops a.tmps) = true then Oper.wp P oj a w K Q else K (a.put Nj undef) w) :
  za_ P md ops Q S ds (fuel + 1) l a w := by
 subst hNi
 subst hNj
 simp only [Bool.and_eq_true, beq_iff_eq] at hc
 obtain ⟨⟨h3, h4⟩, h5⟩ := hc
 subst h4
 subst h5
 exact ze_ h3 (by simp) (AllReadyL.cons hi hdi (fun K hK => h1 K hK) (AllReadyL.cons hj hdj (fun K hK => h2 K hK) AllReadyL.nil))
def fc_ : Act → List (Tmp × Value) → Act
 | a, [] => a
 | a, (n, v) :: r => fc_ (a.put (some n) v) r
theorem sk_ {σ : Type} {fuel : Nat} {l : Array Bool} {a : Act} {w : World} (fuel' : Nat) (l' : Array Bool) (ns : σ → List (Tmp × Value)) (F : σ → World → Prop)
  (hcont : ∀ s w', F s w' → za_ P md ops Q S ds fuel' l' (fc_ a (ns s)) w')
  (h : (∀ s w', F s w' → za_ P md ops Q S ds fuel' l' (fc_ a (ns s)) w') → za_ P md ops Q S ds fuel l a w) : za_ P md ops Q S ds fuel l a w := h hcont
theorem ab_ {fuel : Nat} {l : Array Bool} {a a' : Act} {w : World} (ha : a = a') (h : za_ P md ops Q S ds fuel l a' w) : za_ P md ops Q S ds fuel l a w := by
 subst ha
 exact h
theorem call_ {oi : Oper} {N : Option Tmp} {a : Act} {w : World} {K : Act → World → Prop} (f : FuncId) (args : Array Value) (hw : Region.wanted oi (yielded ops a.tmps) = true) (hN : oi.dst = N) (hrun : (execOp a.eval oi).run P w = .ok (.enter f args) w)
  (h : Calls P f args w fun e w' => ∃ v, e = .returned v ∧ K (a.put N v) w') : if Region.wanted oi (yielded ops a.tmps) = true then Oper.wp P oi a w K Q else K (a.put N undef) w := by
 rw [if_pos hw]
 subst hN
 unfold Oper.wp
 rw [hrun, Oper.upon_enter]
 refine h.mono fun e w'' hh => ?_
 obtain ⟨v, rfl, hk⟩ := hh
 exact hk
theorem iu_ {f : FuncId} {fn : Func} (hf : P.funcs[f]? = some fn) (hname : (fn.name == "runtime.NumGoroutine") = false) (hb : fn.body.isSome = true) (args : Array Value) (w : World) : (callFunc f args).run P w = .ok (.enter f args) w := by
 have h1 : fn.name ≠ "runtime.NumGoroutine" := by simpa using hname
 obtain ⟨c, hc⟩ := Option.isSome_iff_exists.1 hb
 simp [callFunc, hf, h1, hc]
theorem id_ {oi : Oper} {N : Option Tmp} {a : Act} {w : World} {K : Act → World → Prop} {f : FuncId} {fn : Func} {as : Array Operand} {ts : Array TypeId} (hf : P.funcs[f]? = some fn) (hname : (fn.name == "runtime.NumGoroutine") = false) (hb : fn.body.isSome = true) (args : Array Value)
  (hw : Region.wanted oi (yielded ops a.tmps) = true) (hN : oi.dst = N) (hop : oi.op = .call { callee := .value (.func f), args := as, argTypes := ts }) (hargs : as.map a.eval = args)
  (h : Calls P f args w fun e w' => ∃ v, e = .returned v ∧ K (a.put N v) w') : if Region.wanted oi (yielded ops a.tmps) = true then Oper.wp P oi a w K Q else K (a.put N undef) w := by
 refine call_ f args hw hN ?_ h
 have he := iu_ hf hname hb args w
 unfold execOp
 simp [hop, resolve, Deferred.ofValue, invoke, Act.eval, hargs, he]
theorem rb_ {rest : List Oper} {oi : Oper} {a : Act} {w : World} (N : Option Tmp) (hd : oi.dst = N) (hg : oi.guard = none) {f : FuncId} {fn : Func} {as : Array Operand} {ts : Array TypeId} (hf : P.funcs[f]? = some fn) (hname : (fn.name == "runtime.NumGoroutine") = false) (hb : fn.body.isSome = true) (args : Array Value)
  (hop : oi.op = .call { callee := .value (.func f), args := as, argTypes := ts }) (hargs : as.map a.eval = args)
  (h : Calls P f args w fun e w' => ∃ v, e = .returned v ∧ wpList P ops Q rest (a.put N v) w') : wpList P ops Q (oi :: rest) a w := by
 refine wpList_plain hg fun K hK => ?_
 have he := iu_ hf hname hb args w
 have hrun : (execOp a.eval oi).run P w = .ok (.enter f args) w := by
  unfold execOp
  simp [hop, resolve, Deferred.ofValue, invoke, Act.eval, hargs, he]
 unfold Oper.wp
 rw [hrun, Oper.upon_enter]
 refine h.mono fun e w'' hh => ?_
 obtain ⟨v, rfl, hk⟩ := hh
 subst hd
 exact hK _ _ hk
theorem re_ {oi : Oper} {N : Option Tmp} {a : Act} {w w1 : World} {v : Value} {K : Act → World → Prop} (hw : Region.wanted oi (yielded ops a.tmps) = true) (hN : oi.dst = N) (hrun : (execOp a.eval oi).run P w = .ok (.value v) w1)
  (h : K (a.put N v) w1) : if Region.wanted oi (yielded ops a.tmps) = true then Oper.wp P oi a w K Q else K (a.put N undef) w := by
 rw [if_pos hw]
 subst hN
 unfold Oper.wp
 rw [hrun]
 exact h
theorem sn_ {oi : Oper} {a : Act} {w w1 : World} {K : Act → World → Prop} (hw : Region.wanted oi (yielded ops a.tmps) = true) (hN : oi.dst = none) (hrun : (execOp a.eval oi).run P w = .ok .skip w1)
  (h : K a w1) : if Region.wanted oi (yielded ops a.tmps) = true then Oper.wp P oi a w K Q else K (a.put none undef) w := by
 rw [if_pos hw]
 unfold Oper.wp
 rw [hrun]
 show K (a.put oi.dst undef) w1
 rw [hN]
 exact h
theorem ka_ (n : Int) : IntKind.i64.wrap n = Go.RowKit.wrap64 n := by unfold Go.RowKit.wrap64; exact IntKind.wrap_i64 n
theorem la_ (n : Int) : IntKind.i32.wrap n = Go.RowKit.wrap32 n := by unfold Go.RowKit.wrap32; exact IntKind.wrap_i32 n
end
end Go.Proofs.YtjfbfhoipgldgaaGreatW.PrintLast
end
section
namespace Go.Proofs.YtjfbfhoipgldgaaGreatW.PrintLast
open Go.Proofs.YtjfbfhoipgldgaaGreatW.PrintWords (Aside0)
def rh_ (md : Region.Mode) (o : Oper) : List Nat := (o.after.toList.filter (fun e => Region.binds md e)).map (fun e => e.on)
def np_ (md : Region.Mode) (ops : Array Oper) (i : Nat) (oi : Oper) : List Nat := (List.range ops.size).filter fun j => !(j == i) && match ops[j]? with
 | some oj => !(oj.after.any (fun e => Region.binds md e && e.on == i) || oi.apart ops oj)
 | none => false
def rtab (md : Region.Mode) (ops : Array Oper) : Bool × List (List Nat × List Nat) := (Region.noSelect ops, (List.range ops.size).map fun i => match ops[i]? with
 | some o => (rh_ md o, np_ md ops i o)
 | none => ([], []))
def vf_ (T : List (List Nat × List Nat)) (l : List Bool) (i : Nat) : Bool := !l.getD i true && match T[i]? with
 | some r => r.1.all (fun j => l.getD j false)
 | none => false
def tj_ (T : List (List Nat × List Nat)) (l : List Bool) : List Nat := (List.range T.length).filter (vf_ T l)
def lr_ (T : List (List Nat × List Nat)) (l : List Bool) (i : Nat) : Bool := match T[i]? with
 | some r => r.2.all (fun j => l.getD j true)
 | none => false
def el_ (T : List (List Nat × List Nat)) (l : List Bool) : Bool := (List.range T.length).all fun j => !l.getD j false || match T[j]? with
 | some r => r.1.all (fun k => l.getD k false)
 | none => true
def uj_ (T : List (List Nat × List Nat)) (i : Nat) : Nat → Nat → Bool
 | 0, _ => false
 | fuel + 1, d => match T[d]? with
  | some r => r.1.any fun j => j == i || uj_ T i fuel j
  | none => false
def lastT (T : List (List Nat × List Nat)) (l : List Bool) (ds : List Nat) (i : Nat) : Bool := ds.all fun d => l.getD d true || uj_ T i T.length d
section
variable {md : Region.Mode} {ops : Array Oper} {T : Bool × List (List Nat × List Nat)} {l l' li lj lk : Array Bool} {ds : List Nat} {i j k : Nat}
theorem gd (l : Array Bool) (j : Nat) (b : Bool) : l.getD j b = l.toList.getD j b := by simp [Array.getD_eq_getD_getElem?, List.getD_eq_getElem?_getD]
theorem bo_ (o : Oper) (p : Nat → Bool) : o.after.all (fun e => !Region.binds md e || p e.on) = (rh_ md o).all p := by
 unfold rh_
 rw [← Array.all_toList]
 induction o.after.toList with
 | nil => rfl
 | cons e r ih =>
  rw [List.all_cons, ih, List.filter_cons]
  cases h : Region.binds md e <;> simp
theorem nv_ (o : Oper) (p : Nat → Bool) : o.after.any (fun e => Region.binds md e && p e.on) = (rh_ md o).any p := by
 unfold rh_
 rw [← Array.any_toList]
 induction o.after.toList with
 | nil => rfl
 | cons e r ih =>
  rw [List.any_cons, ih, List.filter_cons]
  cases h : Region.binds md e <;> simp
theorem tf_ : (rtab md ops).2.length = ops.size := by simp [rtab]
theorem nh_ {o : Oper} (h : ops[i]? = some o) : (rtab md ops).2[i]? = some (rh_ md o, np_ md ops i o) := by
 have hi := (Array.getElem?_eq_some_iff.1 h).1
 unfold rtab
 rw [List.getElem?_map, List.getElem?_range hi, Option.map_some, h]
theorem oh_ (h : ops[i]? = none) : (rtab md ops).2[i]? = none := by
 have hi : ops.size ≤ i := Array.getElem?_eq_none_iff.1 h
 exact List.getElem?_eq_none (by rw [tf_]; exact hi)
theorem os_ : vf_ (rtab md ops).2 l.toList i = (!l.getD i true && ((ops[i]?).map (·.after.all fun e => !Region.binds md e || l.getD e.on false)).getD false) := by
 unfold vf_
 rw [gd]
 cases h : ops[i]? with
 | none => rw [oh_ h]; rfl
 | some o =>
  rw [nh_ h]
  simp only [Option.map_some, Option.getD_some]
  rw [← bo_]
  simp only [gd]
theorem dj_ : Region.ready md ops l = tj_ (rtab md ops).2 l.toList := by
 unfold Region.ready tj_
 rw [tf_]
 refine List.filter_congr (fun i _ => ?_)
 rw [os_]
theorem hu_ : Region.free md ops l i = lr_ (rtab md ops).2 l.toList i := by
 unfold Region.free lr_
 cases h : ops[i]? with
 | none => rw [oh_ h]
 | some oi =>
  rw [nh_ h]
  simp only [np_]
  rw [List.all_filter]
  congr 1
  funext j
  rw [gd]
  cases hj : ops[j]? with
  | none => cases (j == i) <;> cases (l.toList.getD j true) <;> simp
  | some oj =>
   cases (j == i) <;> cases (l.toList.getD j true) <;> cases (oj.after.any (fun e => Region.binds md e && e.on == i) || oi.apart ops oj) <;> simp_all
theorem ew_ : Region.closedB md ops l = el_ (rtab md ops).2 l.toList := by
 unfold Region.closedB el_
 rw [tf_]
 congr 1
 funext j
 rw [gd]
 cases h : ops[j]? with
 | none => rw [oh_ h]
 | some o =>
  rw [nh_ h]
  simp only
  rw [← bo_]
  simp only [gd]
theorem sq_ : ∀ (fuel d : Nat), Region.reachB md ops i fuel d = uj_ (rtab md ops).2 i fuel d
 | 0, _ => rfl
 | fuel + 1, d => by
  unfold Region.reachB uj_
  cases h : ops[d]? with
  | none => rw [oh_ h]
  | some o =>
   rw [nh_ h]
   simp only
   rw [← nv_]
   congr 1
   funext e
   rw [sq_ fuel]
theorem last_eq : Region.lastB md ops l ds i = lastT (rtab md ops).2 l.toList ds i := by
 unfold Region.lastB lastT
 rw [tf_]
 congr 1
 funext d
 rw [gd, sq_]
theorem kk_ (h : vf_ T.2 l.toList i = true) (hT : rtab md ops = T) : (Region.ready md ops l).contains i = true := by
 subst hT
 rw [dj_]
 unfold tj_
 rw [List.contains_iff_mem, List.mem_filter, List.mem_range]
 refine ⟨?_, h⟩
 unfold vf_ at h
 rw [Bool.and_eq_true] at h
 cases hq : (rtab md ops).2[i]? with
 | none => rw [hq] at h; simp at h
 | some r => exact (List.getElem?_eq_some_iff.1 hq).1
theorem yl_ (h : (l.toList.set i true == l'.toList) = true) : (l.setIfInBounds i true == l') = true := by
 rw [beq_iff_eq] at h ⊢
 apply Array.ext'
 rw [Array.toList_setIfInBounds]
 exact h
def anyT (T : Bool × List (List Nat × List Nat)) (l l' : List Bool) (i : Nat) : Bool := T.1 && lr_ T.2 l i && vf_ T.2 l i && (l.set i true == l')
theorem jb_ (hT : rtab md ops = T) (h : anyT T l.toList l'.toList i = true) : anyB md ops l l' i = true := by
 simp only [anyT, Bool.and_eq_true] at h
 obtain ⟨⟨⟨h1, h2⟩, h3⟩, h4⟩ := h
 have h5 := kk_ h3 hT
 have h6 := yl_ h4
 subst hT
 simp only [anyB, Bool.and_eq_true]
 exact ⟨⟨⟨h1, by rw [hu_]; exact h2⟩, h5⟩, h6⟩
def takeT (T : Bool × List (List Nat × List Nat)) (ds : List Nat) (l l' : List Bool) (i : Nat) : Bool := T.1 && lr_ T.2 l i && vf_ T.2 l i && el_ T.2 l && lastT T.2 l ds i && (l.set i true == l')
theorem take_of (hT : rtab md ops = T) (h : takeT T ds l.toList l'.toList i = true) : bq_ md ops ds l l' i = true := by
 simp only [takeT, Bool.and_eq_true] at h
 obtain ⟨⟨⟨⟨⟨h1, h2⟩, h3⟩, h4⟩, h5⟩, h6⟩ := h
 have h7 := kk_ h3 hT
 have h8 := yl_ h6
 subst hT
 simp only [bq_, Bool.and_eq_true]
 exact ⟨⟨⟨⟨⟨h1, by rw [hu_]; exact h2⟩, h7⟩, by rw [ew_]; exact h4⟩, by rw [last_eq]; exact h5⟩, h8⟩
theorem lc_ (hT : rtab md ops = T) (h : (tj_ T.2 l.toList == [i] && l.toList.set i true == l'.toList) = true) : gd_ md ops l l' i = true := by
 simp only [Bool.and_eq_true] at h
 obtain ⟨h1, h2⟩ := h
 subst hT
 simp only [gd_, Bool.and_eq_true]
 exact ⟨by rw [dj_]; exact h1, yl_ h2⟩
theorem nl_ (hT : rtab md ops = T) (h : (tj_ T.2 l.toList == [i, j] && l.toList.set i true == li.toList && l.toList.set j true == lj.toList) = true) : (Region.ready md ops l == [i, j] && l.setIfInBounds i true == li && l.setIfInBounds j true == lj) = true := by
 simp only [Bool.and_eq_true] at h ⊢
 obtain ⟨⟨h1, h2⟩, h3⟩ := h
 subst hT
 exact ⟨⟨by rw [dj_]; exact h1, yl_ h2⟩, yl_ h3⟩
theorem vh_ (hT : rtab md ops = T) (h : (tj_ T.2 l.toList == []) = true) : (Region.ready md ops l == []) = true := by
 subst hT
 rw [dj_]
 exact h
def upM (B : List Nat) (d : Nat) : List Nat → Nat
 | [] => 0
 | n :: r => (2 ^ n ||| (if n < d then B.getD n 0 else 0)) ||| upM B d r
def rf_ (T : List (List Nat × List Nat)) (B : List Nat) : Bool := (List.range T.length).all fun d => match T[d]? with
 | some r => (B.getD d 0 ||| upM B d r.1) == upM B d r.1
 | none => false
theorem vt_ {B : List Nat} {d i : Nat} : ∀ {ns : List Nat}, (upM B d ns).testBit i = true → ∃ n ∈ ns, n = i ∨ (n < d ∧ (B.getD n 0).testBit i = true)
 | [], h => by simp [upM] at h
 | n :: r, h => by
  unfold upM at h
  rw [Nat.testBit_or, Nat.testBit_or, Bool.or_eq_true, Bool.or_eq_true] at h
  rcases h with (h | h) | h
  ·rw [Nat.testBit_two_pow] at h
   exact ⟨n, List.mem_cons_self, .inl (by simpa using h)⟩
  ·by_cases hn : n < d
   ·rw [if_pos hn] at h
    exact ⟨n, List.mem_cons_self, .inr ⟨hn, h⟩⟩
   rw [if_neg hn] at h
   simp at h
  obtain ⟨m, hm, h2⟩ := vt_ h
  exact ⟨m, List.mem_cons_of_mem _ hm, h2⟩
theorem vn_ {T : List (List Nat × List Nat)} {B : List Nat} (hB : rf_ T B = true) : ∀ (fuel d : Nat), d < fuel → d < T.length → (B.getD d 0).testBit i = true → uj_ T i fuel d = true
 | 0, d, h, _, _ => by omega
 | fuel + 1, d, h, hd, hb => by
  have h1 := List.all_eq_true.1 hB d (List.mem_range.2 hd)
  cases hr : T[d]? with
  | none => rw [hr] at h1; simp at h1
  | some r =>
   rw [hr] at h1
   simp only [beq_iff_eq] at h1
   have h2 : (upM B d r.1).testBit i = true := by rw [← h1, Nat.testBit_or, hb, Bool.true_or]
   obtain ⟨n, hn, h3⟩ := vt_ h2
   unfold uj_
   rw [hr]
   simp only
   rw [List.any_eq_true]
   refine ⟨n, hn, ?_⟩
   rcases h3 with rfl | ⟨h4, h5⟩
   ·simp
   rw [vn_ hB fuel n (by omega) (by omega) h5, Bool.or_true]
def lastW (T : List (List Nat × List Nat)) (B : List Nat) (l : List Bool) (ds : List Nat) (i : Nat) : Bool := ds.all fun d => l.getD d true || (decide (d < T.length) && (B.getD d 0).testBit i)
def takeW (T : Bool × List (List Nat × List Nat)) (B : List Nat) (ds : List Nat) (l l' : List Bool) (i : Nat) : Bool := T.1 && lr_ T.2 l i && vf_ T.2 l i && el_ T.2 l && lastW T.2 B l ds i && (l.set i true == l')
theorem yd_ {B : List Nat} (hT : rtab md ops = T) (hB : rf_ T.2 B = true) (h : takeW T B ds l.toList l'.toList i = true) : bq_ md ops ds l l' i = true := by
 refine take_of hT ?_
 simp only [takeW, takeT, Bool.and_eq_true] at h ⊢
 obtain ⟨⟨⟨⟨⟨h1, h2⟩, h3⟩, h4⟩, h5⟩, h6⟩ := h
 refine ⟨⟨⟨⟨⟨h1, h2⟩, h3⟩, h4⟩, ?_⟩, h6⟩
 unfold lastW at h5
 unfold lastT
 rw [List.all_eq_true] at h5 ⊢
 intro d hd
 have h7 := h5 d hd
 rw [Bool.or_eq_true, Bool.and_eq_true, decide_eq_true_eq] at h7
 rcases h7 with h7 | ⟨h8, h9⟩
 ·rw [h7, Bool.true_or]
 rw [vn_ hB _ d h8 h8 h9, Bool.or_true]
theorem gf_ {P : Program} {Q : Exit → Act → World → Prop} {S : World → Prop} {n : Nat} {a : Act} {w : World} {B : List Nat} (hT : rtab md ops = T) (hB : rf_ T.2 B = true) (h : Aside0 (rtab md ops = T) → Aside0 (rf_ T.2 B = true) → za_ P md ops Q S ds n l a w) : za_ P md ops Q S ds n l a w := h ⟨hT⟩ ⟨hB⟩
end
def fi_ : Code → Nat → Option (Array Oper)
 | .region id ops _, k => if id == k then some ops else none
 | .seq a b, k => match fi_ a k with
  | some o => some o
  | none => fi_ b k
 | .cond _ a b, k => match fi_ a k with
  | some o => some o
  | none => fi_ b k
 | .block _ c, k => fi_ c k
 | .loop c, k => fi_ c k
 | .scope c, k => fi_ c k
 | .rangeFunc _ _ a b, k => match fi_ a k with
  | some o => some o
  | none => fi_ b k
 | _, _ => none
def opsOf (f : Func) (k : Nat) : Array Oper := ((f.body.bind fun c => fi_ c k)).getD #[]
end Go.Proofs.YtjfbfhoipgldgaaGreatW.PrintLast
end
section
namespace Go.Proofs.YtjfbfhoipgldgaaGreatW.PrintWords
open Go.RowKit
namespace Kd
def tag {α : Type} (f : Nat → Nat) (d : Kd α) : Kd (α × Nat) where
 sz := d.sz
 E := d.E
 K := fun w x cs => d.K w x.1 cs
 M := fun w base ok x cs => d.M w base (fun k => ok k ∧ f k = x.2) x.1 cs
 K_len := fun h => d.K_len h
 K_one := fun h => d.K_one h
 K_below := fun hb h => d.K_below hb h
 K_of_M := fun h => d.K_of_M h
 M_mono := fun hok h => d.M_mono (fun k hk => ⟨hok k hk.1, hk.2⟩) h
 M_bound := fun h => d.M_mono (fun _ hk => ⟨⟨hk.1.1, hk.2⟩, hk.1.2⟩) (d.M_bound h)
 M_move := fun hm h => d.M_move (fun k hk => hm k hk.1) h
 M_lower := fun hb h => d.M_lower hb h
def raw (sz : Nat) : Kd (List Value) where
 sz := sz
 E := []
 K := fun _ x cs => cs = x ∧ cs.length = sz ∧ ∀ u ∈ cs, u.oneCell' = true
 M := fun _ _ _ x cs => cs = x ∧ cs.length = sz ∧ ∀ u ∈ cs, u.oneCell' = true
 K_len := fun h => h.2.1
 K_one := fun h => h.2.2
 K_below := fun _ h => h
 K_of_M := fun h => h
 M_mono := fun _ h => h
 M_bound := fun h => h
 M_move := fun _ h => h
 M_lower := fun _ h => h
def S {α : Type} (d : Kd α) (e : Nat) (w : World) (base : Nat) (ok : Nat → Prop) (v : Value) (xs : List α) : Prop := ∃ f, (tag f d).R e w base ok v xs.zipIdx
section
variable {α β : Type} {d : Kd α} {d' : Kd β} {e e' : Nat} {w w1 W : World} {base b : Nat} {ok ok' okv oku : Nat → Prop} {u v : Value} {xs : List α} {ys : List β}
theorem zip_at {xs : List α} {j : Nat} {p : α} (h : xs[j]? = some p) : xs.zipIdx[j]? = some (p, j) := by rw [List.getElem?_zipIdx, h, Nat.zero_add]; rfl
theorem S_R (h : S d e w base ok v xs) : d.R e w base ok v xs := by
 obtain ⟨f, h0, inner, ho, hr⟩ := h
 rw [List.length_zipIdx] at ho
 exact ⟨h0, inner, ho, by have := hr.1; rw [List.length_zipIdx] at this; exact this, fun j p hj => d.M_mono (fun _ hk => hk.1) (hr.2 j (p, j) (zip_at hj))⟩
theorem R_tight (hE : d.E = []) (h : d.R e w base ok v xs) : d.R e w base (fun k => some k = v.ownBlock) v xs := by
 obtain ⟨h0, inner, ho, hr⟩ := h
 refine ⟨fun k hk => hk.symm, inner, ho, hr.imp_ (fun p c hp => d.M_mono (fun k hk => ?_) (d.M_bound hp))⟩
 obtain ⟨_, _, _, q, hq, _⟩ := hk
 rw [hE] at hq
 cases hq
end
section
variable {α β : Type} {d : Kd α} {d' : Kd β} {e e' g : Nat} {w w1 W : World} {base b : Nat} {ok ok' okv oku : Nat → Prop} {u v : Value} {xs : List α} {ys : List β}
theorem S_reads (h : S d e w base ok v xs) : ∃ A c, v = .slice A xs.length c ∧ xs.length ≤ c ∧ d.C w A xs.length xs := R_reads (S_R h)
end
section
variable {P : Program} {ops : Array Oper} {rest : List Oper} {o : Oper} {a : Act} {Q : Exit → Act → World → Prop} {Kc : Act → World → Prop} {α : Type}
end
def gap {α : Type} (f : Nat → Nat) (d : Kd α) (i : Nat) (c : List Value) : Kd (α × Nat) where
 sz := d.sz
 E := d.E
 K := fun w x cs => (x.2 = i → cs = c ∧ cs.length = d.sz ∧ ∀ u ∈ cs, u.oneCell' = true) ∧ (x.2 ≠ i → d.K w x.1 cs)
 M := fun w base ok x cs => (x.2 = i → cs = c ∧ cs.length = d.sz ∧ ∀ u ∈ cs, u.oneCell' = true) ∧ (x.2 ≠ i → d.M w base (fun k => ok k ∧ f k = x.2) x.1 cs)
 K_len := fun {w x cs} h => by
  by_cases hx : x.2 = i
  ·exact (h.1 hx).2.1
  exact d.K_len (h.2 hx)
 K_one := fun {w x cs} h => by
  by_cases hx : x.2 = i
  ·exact (h.1 hx).2.2
  exact d.K_one (h.2 hx)
 K_below := fun hb h => ⟨h.1, fun hx => d.K_below hb (h.2 hx)⟩
 K_of_M := fun h => ⟨h.1, fun hx => d.K_of_M (h.2 hx)⟩
 M_mono := fun hok h => ⟨h.1, fun hx => d.M_mono (fun k hk => ⟨hok k hk.1, hk.2⟩) (h.2 hx)⟩
 M_bound := fun h => ⟨h.1, fun hx => d.M_mono (fun _ hk => ⟨⟨hk.1.1, hk.2⟩, hk.1.2⟩) (d.M_bound (h.2 hx))⟩
 M_move := fun hm h => ⟨h.1, fun hx => d.M_move (fun k hk => hm k hk.1) (h.2 hx)⟩
 M_lower := fun hb h => ⟨h.1, fun hx => d.M_lower hb (h.2 hx)⟩
def H {α : Type} (d : Kd α) (e : Nat) (w : World) (base : Nat) (ok : Nat → Prop) (v : Value) (xs : List α) (i : Int) (oki : Nat → Prop) (c : List Value) : Prop :=
 (∀ k, oki k → ok k) ∧ ∃ f, (gap f d i.toNat c).R e w base (fun k => ok k ∧ ¬ oki k) v xs.zipIdx
section
variable {α β : Type} {d : Kd α} {e e' g n cap : Nat} {w w1 W : World} {base : Nat} {ok ok' oki okp : Nat → Prop} {u v : Value} {xs : List α} {i : Int} {c : List Value}
end
section
variable {P : Program} {ops : Array Oper} {rest : List Oper} {o : Oper} {a : Act} {Q : Exit → Act → World → Prop} {α : Type}
end
end Kd
end Go.Proofs.YtjfbfhoipgldgaaGreatW.PrintWords
end
section
namespace Go.Proofs.YtjfbfhoipgldgaaGreatW.PrintWords
open Go.RowKit
def Foot (P : World → Prop) (W : World) (ok : Nat → Prop) : Prop := ∀ W' : World, (∀ k, ok k → k < W.heap.size → W'.heap[k]? = W.heap[k]?) → P W'
theorem heap_lt {W W1 : World} {k : Nat} (h : W1.heap[k]? = W.heap[k]?) (hlt : k < W.heap.size) : k < W1.heap.size := by
 rw [Array.getElem?_eq_getElem hlt] at h
 exact (Array.getElem?_eq_some_iff.1 h).1
namespace Foot
variable {P Q : World → Prop} {W W1 : World} {ok ok' : Nat → Prop}
theorem now (h : Foot P W ok) : P W := h W (fun _ _ _ => rfl)
theorem mono (h : Foot P W ok) (hok : ∀ k, ok k → ok' k) : Foot P W ok' := fun W' hW => h W' (fun k hk hlt => hW k (hok k hk) hlt)
theorem bound (h : Foot P W ok) : Foot P W (fun k => ok k ∧ k < W.heap.size) := fun W' hW => h W' (fun k hk hlt => hW k ⟨hk, hlt⟩ hlt)
theorem step (h : Foot P W ok) (hm : ∀ k, ok k → k < W.heap.size → W1.heap[k]? = W.heap[k]?) : Foot P W1 ok := fun W' hW => h W' (fun k hk hlt => (hW k hk (heap_lt (hm k hk hlt) hlt)).trans (hm k hk hlt))
end Foot
namespace Kd
def F {α : Type} (d : Kd α) (W : World) (ok : Nat → Prop) (A : Option Addr) (n : Nat) (xs : List α) : Prop := Foot (fun W => d.C W A n xs) W ok
def FK {α : Type} (d : Kd α) (W : World) (ok : Nat → Prop) (x : α) (c : List Value) : Prop := Foot (fun W => d.K W x c) W ok
section
variable {α β : Type} {d : Kd α} {e base n n' cc g N : Nat} {ok ok' okp S : Nat → Prop} {w w0 w1 W W1 : World} {A A' : Option Addr} {u v v1 : Value} {xs : List α} {xs' : List β} {d' : Kd β} {x : α} {c : List Value}
theorem F_now (h : F d W ok A n xs) : d.C W A n xs := Foot.now h
theorem R_F (h : d.R e W base ok (.slice A n cc) xs) : F d W ok A n xs := fun W' hW => by
 have h2 := R_reads' (R_step h hW)
 rw [h2.1]
 exact h2.2.2
theorem xg_ (h : FK d W ok x c) : d.K W x c := Foot.now h
theorem hl_ (h : FK d W ok x c) (hok : ∀ k, ok k → ok' k) : FK d W ok' x c := Foot.mono h hok
theorem zm_ (h : FK d W ok x c) : FK d W (fun k => ok k ∧ k < W.heap.size) x c := Foot.bound h
theorem xp_ (h : FK d W ok x c) (hm : ∀ k, ok k → k < W.heap.size → W1.heap[k]? = W.heap[k]?) : FK d W1 ok x c := Foot.step h hm
theorem FK_of_M (h : d.M W base ok x c) : FK d W ok x c := fun _ hW => d.K_of_M (M_step h hW)
theorem emptied (W : World) (g : Nat) : ∃ W' : World, (∀ k, k ≠ g → W'.heap[k]? = W.heap[k]?) ∧ ∀ a : Addr, a.block = g → W'.cell? a = none := by
 refine ⟨{ W with heap := W.heap.setIfInBounds g (.cells #[] 0) }, fun k hk => by simp [Ne.symm hk], fun a ha => ?_⟩
 subst ha
 by_cases hlt : a.block < W.heap.size
 ·simp [World.cell?, hlt]
 simp [World.cell?, hlt]
end
end Kd
end Go.Proofs.YtjfbfhoipgldgaaGreatW.PrintWords
end
section
namespace Go.Proofs.YtjfbfhoipgldgaaGreatW.PrintWords
open Go.RowKit
namespace Kd
def eg_ (sz : Nat) (n : Nat) (inner : List Value) : List (List Value) := (List.range n).map fun j => (inner.drop (j * sz)).take sz
theorem tb_ (sz n : Nat) (inner : List Value) : (eg_ sz n inner).length = n := by simp [eg_]
theorem fw_ {sz n : Nat} {inner : List Value} {j : Nat} (hj : j < n) : (eg_ sz n inner)[j]? = some ((inner.drop (j * sz)).take sz) := by simp [eg_, hj]
theorem ue_ {sz n : Nat} {inner : List Value} {j : Nat} {c : List Value} (h : (eg_ sz n inner)[j]? = some c) : c = (inner.drop (j * sz)).take sz := by
 have hj : j < n := by have := (List.getElem?_eq_some_iff.1 h).1; rwa [tb_] at this
 rw [fw_ hj] at h
 injection h with h
 exact h.symm
theorem zl_ {α : Type} {Rr : α → List Value → Prop} {sz : Nat} {xs : List α} {inner : List Value} (h : Reps Rr sz xs inner) (hR : ∀ x c, Rr x c → c.length = sz ∧ ∀ u ∈ c, u.oneCell' = true) : Reps (fun x cs => cs = x ∧ cs.length = sz ∧ ∀ u ∈ cs, u.oneCell' = true) sz (eg_ sz xs.length inner) inner := by
 refine ⟨by rw [tb_]; exact h.1, fun j p hj => ?_⟩
 have hjl : j < xs.length := by have := (List.getElem?_eq_some_iff.1 hj).1; rwa [tb_] at this
 have hp := ue_ hj
 exact ⟨hp.symm, hR _ _ (h.2 j _ (List.getElem?_eq_getElem hjl))⟩
section
variable {α : Type} {d : Kd α} {e base n cc g : Nat} {ok ok' okp S : Nat → Prop} {w w1 W W1 : World} {A : Option Addr} {u v v1 : Value} {xs : List α} {x : α} {c : List Value}
theorem F_get (h : F d W ok A n xs) (z : α) (i : Int) (h0 : 0 ≤ i) (h1 : i < n) :
  ∃ ad c, A = some ad ∧ c.length = d.sz ∧ FK d W ok (xs.getD i.toNat z) c ∧ (∀ j u, c[j]? = some u → W.cell? (ad.add (i.toNat * d.sz + j)) = some u) ∧ (0 < d.sz → ok ad.block) := by
 obtain ⟨ad, c, rfl, hcl, hK, hcc⟩ := C_get (F_now h) z i h0 h1
 have hin : 0 < d.sz → ok ad.block := by
  intro hs
  by_cases hk : ok ad.block
  ·exact hk
  obtain ⟨W', h2, h3⟩ := emptied W ad.block
  obtain ⟨ad', c', he, hcl', _, hcc'⟩ := C_get (h W' (fun k hk' _ => h2 k (fun e => hk (e ▸ hk')))) z i h0 h1
  injection he with he
  subst he
  have h4 := hcc' 0 _ (List.getElem?_eq_getElem (by omega))
  rw [h3 _ (ak_ _ _)] at h4
  cases h4
 refine ⟨ad, c, rfl, hcl, fun W' hW => ?_, hcc, hin⟩
 obtain ⟨ad', c', he, hcl', hK', hcc'⟩ := C_get (h W' hW) z i h0 h1
 injection he with he
 subst he
 have hc : c = c' := by
  apply List.ext_getElem?
  intro j
  by_cases hj : j < d.sz
  ·have hb : W'.heap[ad.block]? = W.heap[ad.block]? := by
    have h5 := hcc j _ (List.getElem?_eq_getElem (by omega))
    have h6 := World.block_lt_of_cell? W _ h5
    rw [ak_] at h6
    exact hW _ (hin (by omega)) h6
   have h5 := hcc j _ (List.getElem?_eq_getElem (by omega))
   have h6 := hcc' j _ (List.getElem?_eq_getElem (by omega))
   have h7 : W'.cell? (ad.add (i.toNat * d.sz + j)) = W.cell? (ad.add (i.toNat * d.sz + j)) := by simp [World.cell?, ak_, hb]
   rw [h7, h5] at h6
   rw [List.getElem?_eq_getElem (by omega), List.getElem?_eq_getElem (by omega)]
   exact h6
  rw [List.getElem?_eq_none (by omega), List.getElem?_eq_none (by omega)]
 rw [hc]
 exact hK'
theorem F_rows (h : F d W ok A n xs) : ReadsRow (fun x c => FK d W ok x c) d.sz W A n xs := by
 obtain ⟨hl, hm, hn⟩ := F_now h
 refine ⟨hl, hm, fun hp => ?_⟩
 obtain ⟨ad, rfl, _⟩ := hn hp
 refine ⟨ad, rfl, fun j p hj => ?_⟩
 obtain ⟨hjl, hjp⟩ := List.getElem?_eq_some_iff.1 hj
 obtain ⟨ad', c, he, hcl, hK, hcc, _⟩ := F_get h p (j : Int) (by omega) (by omega)
 injection he with he
 subst he
 simp only [Int.toNat_natCast] at hK hcc
 rw [List.getD_eq_getElem?_getD, hj] at hK
 exact ⟨c, hcl, hK, hcc⟩
def N {α : Type} (d : Kd α) (e : Nat) (w : World) (base : Nat) (ok : Nat → Prop) (v : Value) (xs : List α) : Prop :=
 (∀ k, v.ownBlock = some k → ok k) ∧ ∃ rows : List (List Value), rows.length = xs.length ∧ (raw d.sz).R e w base (fun k => some k = v.ownBlock) v rows ∧ ∀ (j : Nat) (x : α) (c : List Value), xs[j]? = some x → rows[j]? = some c → FK d w (fun k => ok k ∧ some k ≠ v.ownBlock) x c
theorem wn_ {sz : Nat} {rows : List (List Value)} (h : (raw sz).R e w base ok v rows) : (raw sz).R e w base (fun k => some k = v.ownBlock) v rows := R_tight rfl h
theorem xt_ {sz : Nat} {rows : List (List Value)} (h : (raw sz).R e w base ok v rows) : (raw sz).R e w base (fun _ => True) v rows := R_mono h (fun _ _ => trivial)
theorem R_N (h : d.R e w base ok v xs) : N d e w base ok v xs := by
 obtain ⟨h0, inner, ho, hr⟩ := h
 refine ⟨h0, eg_ d.sz xs.length inner, tb_ _ _ _, ⟨fun k hk => hk.symm, inner, by rw [tb_]; exact ho, zl_ hr (fun x c hp => ⟨d.K_len (d.K_of_M hp), d.K_one (d.K_of_M hp)⟩)⟩, fun j x c hx hc => ?_⟩
 rw [ue_ hc]
 exact FK_of_M (hr.2 j x hx)
theorem N_nil (d : Kd α) (e : Nat) (w : World) (base : Nat) (ok : Nat → Prop) : N d e w base ok (.slice none 0 0) [] := R_N (R_nil _ _ _ _ _)
theorem N_mono (h : N d e w base ok v xs) (hok : ∀ k, ok k → ok' k) : N d e w base ok' v xs := by
 obtain ⟨h0, rows, hl, hR, hf⟩ := h
 exact ⟨fun k hk => hok k (h0 k hk), rows, hl, hR, fun j x c hx hc => hl_ (hf j x c hx hc) (fun k hk => ⟨hok k hk.1, hk.2⟩)⟩
theorem N_lt (h : N d e w base ok v xs) : ∀ k, v.ownBlock = some k → k < w.heap.size := by
 obtain ⟨_, rows, _, hR, _⟩ := h
 exact R_lt hR
theorem N_base (h : N d e w base ok v xs) : ∀ k, v.ownBlock = some k → base ≤ k := by
 obtain ⟨_, rows, _, hR, _⟩ := h
 exact R_base hR
theorem N_typed (h : N d e w base ok v xs) : ∀ k, v.ownBlock = some k → ∃ cells, w.heap[k]? = some (.cells cells e (0, 0)) := by
 obtain ⟨_, rows, _, hR, _⟩ := h
 exact R_typed hR
theorem vp_ (h : N d e w base ok v xs) : N d e w base (fun k => ok k ∧ k < w.heap.size) v xs := by
 have hlt := N_lt h
 obtain ⟨h0, rows, hl, hR, hf⟩ := h
 exact ⟨fun k hk => ⟨h0 k hk, hlt k hk⟩, rows, hl, hR, fun j x c hx hc => hl_ (zm_ (hf j x c hx hc)) (fun k hk => ⟨⟨hk.1.1, hk.2⟩, hk.1.2⟩)⟩
theorem N_lower {base' : Nat} (h : N d e w base ok v xs) (hb : base' ≤ base) : N d e w base' ok v xs := by
 obtain ⟨h0, rows, hl, hR, hf⟩ := h
 exact ⟨h0, rows, hl, R_lower hR hb, hf⟩
theorem st_ (h : N d e w base ok v xs) (hm : ∀ k, ok k → k < w.heap.size → w1.heap[k]? = w.heap[k]?) : N d e w1 base ok v xs := by
 obtain ⟨h0, rows, hl, hR, hf⟩ := h
 exact ⟨h0, rows, hl, R_step hR (fun k hk hlt => hm k (h0 k hk.symm) hlt), fun j x c hx hc => xp_ (hf j x c hx hc) (fun k hk hlt => hm k hk.1 hlt)⟩
theorem N_below (h : N d e w base ok v xs) (hb : Below w.heap.size w w1) : N d e w1 base ok v xs := st_ h (fun k _ hk => hb.block k hk)
theorem N_alloc (h : N d e w base ok v xs) (o : Obj) : N d e (w.alloc o) base ok v xs := N_below h (ba_ (Below.refl _ _) o)
theorem N_drew (h : N d e w base ok v xs) : N d e w.drew base ok v xs := N_below h (yb_ (Below.refl _ _))
theorem N_drewN (h : N d e w base ok v xs) (m : Nat) : N d e (w.drewN m) base ok v xs := N_below h (aa_ (Below.refl _ _) m)
theorem N_elder' (h : N d e W base ok v xs) (hbase : ∀ k, u.ownBlock = some k → W.heap.size ≤ k) (hb : Below W.heap.size W w1) : N d e w1 base (fun k => ok k ∧ some k ≠ u.ownBlock) v xs :=
 N_mono (N_below (vp_ h) hb) (fun k hk => ⟨hk.1, fun he => by have := hbase k he.symm; have := hk.2; omega⟩)
theorem N_after (h : N d e W base (fun k => ok k ∧ some k ≠ u.ownBlock) v xs) {u1 : Value} (hg : W.grownBy w1 u.ownBlock) (hat : u1.ownBlock = u.ownBlock ∨ ∃ b, u1.ownBlock = some b ∧ W.heap.size ≤ b) : N d e w1 base (fun k => ok k ∧ some k ≠ u1.ownBlock) v xs := by
 refine N_mono (st_ (vp_ h) (fun k hk hlt => hg.block k hlt hk.1.2)) (fun k hk => ⟨hk.1.1, ?_⟩)
 rcases hat with hat | ⟨b, hb, hle⟩
 ·rw [hat]; exact hk.1.2
 rw [hb]
 intro he
 injection he with he
 have := hk.2
 omega
theorem N_old (h : N d e W base ok v xs) (hb : Below W.heap.size W w1) : N d e w1 base (fun k => ok k ∧ k < W.heap.size) v xs := N_below (vp_ h) hb
theorem N_told {b : Nat} (h : N d e w1 base (fun k => ok k ∧ k < b) v xs) (hbase : ∀ k, u.ownBlock = some k → b ≤ k) : N d e w1 base (fun k => (ok k ∧ some k ≠ u.ownBlock) ∧ k < b) v xs :=
 N_mono h (fun k hk => ⟨⟨hk.1, fun e => Nat.lt_irrefl _ (Nat.lt_of_lt_of_le hk.2 (hbase k e.symm))⟩, hk.2⟩)
theorem N_slice (h : N d e w base ok v xs) : ∃ A c, v = .slice A xs.length c := by
 obtain ⟨_, rows, hl, hR, _⟩ := h
 obtain ⟨A, c, he⟩ := R_slice hR
 exact ⟨A, c, by rw [he, hl]⟩
theorem N_reads' {n c : Nat} (h : N d e w base ok (.slice A n c) xs) : n = xs.length ∧ n ≤ c ∧ d.C w A xs.length xs := by
 obtain ⟨_, rows, hl, hR, hf⟩ := h
 obtain ⟨hn, hc, hC⟩ := R_reads' hR
 refine ⟨by omega, hc, ?_⟩
 rw [hl] at hC
 refine ⟨rfl, hC.2.1, fun hp => ?_⟩
 obtain ⟨ad, he, hcell⟩ := hC.2.2 hp
 refine ⟨ad, he, fun j p hj => ?_⟩
 have hjl : j < rows.length := by have := (List.getElem?_eq_some_iff.1 hj).1; omega
 obtain ⟨c', hcl, hK, hcc⟩ := hcell j _ (List.getElem?_eq_getElem hjl)
 have hk := xg_ (hf j p _ hj (List.getElem?_eq_getElem hjl))
 refine ⟨c', hcl, ?_, hcc⟩
 rw [show c' = rows[j] from hK.1]
 exact hk
theorem N_F {n : Nat} (h : N d e w base ok (.slice A n cc) xs) : F d w ok A n xs := fun W' hW => by
 have h2 := N_reads' (st_ h hW)
 rw [h2.1]
 exact h2.2.2
end
end Kd
end Go.Proofs.YtjfbfhoipgldgaaGreatW.PrintWords
end
section
namespace Go.Proofs.YtjfbfhoipgldgaaGreatW.PrintWords
open Go.RowKit
section
variable {P : Program} {d : Nat} {xs ys : Array Value} {f : Field} {fs : List Field} {a b : Value} {r s : Bool} {w : World}
theorem eqf_last (hn : (f.name == "_") = false) (ha : (part f.type xs f.offset).run P w = .ok a w) (hb : (part f.type ys f.offset).run P w = .ok b w) (he : (Op.equalIn d f.type a b).run P w = .ok r w) : (Op.eqFields d xs ys [f]).run P w = .ok r w := by
 have hn' : f.name ≠ "_" := by simpa using hn
 simp only [Op.eqFields, if_pos hn', Sem.run_bind, ha, hb, he, Result.andThen_ok]
 cases r <;> simp
theorem kj_ (hn : (f.name == "_") = false) (ha : (part f.type xs f.offset).run P w = .ok a w) (hb : (part f.type ys f.offset).run P w = .ok b w) (he : (Op.equalIn d f.type a b).run P w = .ok r w) (hr : (Op.eqFields d xs ys fs).run P w = .ok s w) : (Op.eqFields d xs ys (f :: fs)).run P w = .ok (r && s) w := by
 have hn' : f.name ≠ "_" := by simpa using hn
 rw [Op.eqFields]
 simp only [if_pos hn', Sem.run_bind, ha, hb, he, Result.andThen_ok]
 cases r
 ·simp
 simpa using hr
theorem eqA_of {t : TypeId} {fs : Array Field} (hu : P.underlying t = some (.struct fs)) (hp : P.stoodInHeld t = false) (h : (Op.eqFields d xs ys fs.toList).run P w = .ok r w) : (Op.equalIn (d + 1) t (.agg xs) (.agg ys)).run P w = .ok r w := by
 have hf : P.fieldsOf t = fs := by simp [Program.fieldsOf, hu]
 rw [run_equalIn_struct (P := P) w d t xs ys (by rw [hf]; exact hu) hp, hf]
 exact h
end
end Go.Proofs.YtjfbfhoipgldgaaGreatW.PrintWords
end
section
namespace Go.Proofs.YtjfbfhoipgldgaaGreatW.PrintWords
theorem Reps.one {α : Type} {R : α → List Value → Prop} {ps : List α} {cs : List Value} {p : α} {v : Value} (hp : R p [v]) (h : Reps R 1 ps cs) : Reps R 1 (p :: ps) (v :: cs) := by
 refine ⟨by simp [h.1], fun j q hq => ?_⟩
 cases j with
 | zero =>
  simp only [List.getElem?_cons_zero, Option.some.injEq] at hq
  subst hq
  simpa using hp
 | succ j =>
  simp only [List.getElem?_cons_succ] at hq
  have h1 := h.2 j q hq
  simpa [Nat.mul_one] using h1
theorem Reps.front {α : Type} {R : α → List Value → Prop} {size : Nat} {ps : List α} {cs c all : List Value} {p : α} (hp : R p c) (hc : c.length = size) (h : Reps R size ps cs) (ha : c ++ cs = all) : Reps R size (p :: ps) all := by
 subst ha
 refine ⟨by rw [List.length_append, hc, h.1, List.length_cons, Nat.succ_mul, Nat.add_comm], fun j q hq => ?_⟩
 cases j with
 | zero =>
  simp only [List.getElem?_cons_zero, Option.some.injEq] at hq
  subst hq
  rw [Nat.zero_mul, List.drop_zero, List.take_append_of_le_length (by omega), List.take_of_length_le (by omega)]
  exact hp
 | succ j =>
  simp only [List.getElem?_cons_succ] at hq
  have h1 := h.2 j q hq
  rw [Nat.succ_mul, List.drop_append, List.drop_of_length_le (by rw [hc]; exact Nat.le_add_left _ _), List.nil_append, hc, Nat.add_sub_cancel]
  exact h1
theorem Reps.c5 {α : Type} {R : α → List Value → Prop} {ps : List α} {cs : List Value} {p : α} {va vb vc vd ve : Value} (hp : R p [va, vb, vc, vd, ve]) (h : Reps R 5 ps cs) : Reps R 5 (p :: ps) (va :: vb :: vc :: vd :: ve :: cs) := Reps.front hp rfl h rfl
end Go.Proofs.YtjfbfhoipgldgaaGreatW.PrintWords
end
section
namespace Go.Proofs.YtjfbfhoipgldgaaGreatW.PrintLast
def up (b : Nat → Bool) (i : Nat) : Nat → Bool := fun j => if j = i then true else b j
section
variable {P : Program} {ops : Array Oper} {Q : Exit → Act → World → Prop} {md : Region.Mode} {T : Bool × List (List Nat × List Nat)} {B : List Nat} {O : List Nat} {b : Nat → Bool} {i j n : Nat}
end
end Go.Proofs.YtjfbfhoipgldgaaGreatW.PrintLast
end
section
namespace Go.Proofs.YtjfbfhoipgldgaaGreatW.PrintWords
open Go.RowKit
theorem Kd.R_slice1 {α : Type} {d : Kd α} {e base : Nat} {ok : Nat → Prop} {w : World} {v : Value} {xs : List α} (h : d.R e w base ok v xs) (hn : 0 < xs.length) : ∃ (ad : Addr) (c : Nat), v = .slice (some ad) xs.length c := by
 obtain ⟨A, c, rfl⟩ := Kd.R_slice h
 have h2 := (Kd.R_reads' h).2.2
 obtain ⟨ad, he, _⟩ := h2.2.2 hn
 subst he
 exact ⟨ad, c, rfl⟩
end Go.Proofs.YtjfbfhoipgldgaaGreatW.PrintWords
namespace Go.Proofs.YtjfbfhoipgldgaaGreatW.PrintLast
section
variable {ops : Array Oper} {a : Act} {o og : Oper} {g : Nat} {t : Tmp} {u : Bool}
end
end Go.Proofs.YtjfbfhoipgldgaaGreatW.PrintLast
end
section
namespace Go.Proofs.YtjfbfhoipgldgaaGreatW.PrintWords
open Go.RowKit
section
variable {P : Program} {ops : Array Oper} {rest : List Oper} {o : Oper} {a : Act} {Q : Exit → Act → World → Prop} {W : World}
theorem eb_ (hw : Region.wanted o (yielded ops a.tmps) = true) (h : wpList P ops Q ({ o with guard := none } :: rest) a W) : wpList P ops Q (o :: rest) a W := by
 have h1 : Region.wanted { o with guard := none } (yielded ops a.tmps) = true := rfl
 unfold wpList at h ⊢
 rw [if_pos h1] at h
 rw [if_pos hw]
 exact h
end
end Go.Proofs.YtjfbfhoipgldgaaGreatW.PrintWords
end
section
namespace Go.Proofs.YtjfbfhoipgldgaaGreatW.PrintWords
open Go.RowKit
namespace Kd
section
variable {α : Type} {d : Kd α} {e base n cap g : Nat} {ok ok' okp : Nat → Prop} {w w1 W : World} {v v1 : Value} {xs ys : List α}
theorem xm_ {rows news : List (List Value)} (h0 : ∀ k, v.ownBlock = some k → ok k) (hl : rows.length = xs.length) (hf : ∀ (j : Nat) (x : α) (c : List Value), xs[j]? = some x → rows[j]? = some c → FK d W (fun k => ok k ∧ some k ≠ v.ownBlock) x c)
  (hl2 : news.length = ys.length) (hf2 : ∀ (j : Nat) (x : α) (c : List Value), ys[j]? = some x → news[j]? = some c → FK d W okp x c) (hokp : ∀ k, okp k → ok k ∧ some k ≠ v.ownBlock) (hfresh : ∀ k, W.heap.size ≤ k → ok k)
  (hR : (raw d.sz).R e w1 base (fun _ => True) v1 (rows ++ news)) (hg : W.grownBy w1 v.ownBlock) (hat : v1.ownBlock = v.ownBlock ∨ ∃ b, v1.ownBlock = some b ∧ W.heap.size ≤ b) : N d e w1 base ok v1 (xs ++ ys) := by
 have hne : ∀ k, some k ≠ v.ownBlock → k < W.heap.size → some k ≠ v1.ownBlock := by
  intro k hk hlt
  rcases hat with hat | ⟨b, hb, hle⟩
  ·rw [hat]; exact hk
  rw [hb]
  intro he
  injection he with he
  omega
 have step : ∀ {x : α} {c : List Value} {o : Nat → Prop}, FK d W o x c → (∀ k, o k → ok k ∧ some k ≠ v.ownBlock) → FK d w1 (fun k => ok k ∧ some k ≠ v1.ownBlock) x c := by
  intro x c o hq ho
  exact hl_ (xp_ (zm_ hq) (fun k hk hlt => hg.block k hlt (ho k hk.1).2)) (fun k hk => ⟨(ho k hk.1).1, hne k (ho k hk.1).2 hk.2⟩)
 refine ⟨fun k hk => ?_, rows ++ news, by rw [List.length_append, List.length_append, hl, hl2], wn_ hR, fun j x c hx hc => ?_⟩
 ·rcases hat with hat | ⟨b, hb, hle⟩
  ·exact h0 k (hat ▸ hk)
  rw [hb] at hk
  injection hk with hk
  exact hfresh k (by omega)
 rcases Nat.lt_or_ge j xs.length with hlt | hge
 ·rw [List.getElem?_append_left hlt] at hx
  rw [List.getElem?_append_left (by omega)] at hc
  exact step (hf j x c hx hc) (fun _ hk => hk)
 rw [List.getElem?_append_right hge] at hx
 rw [List.getElem?_append_right (by omega), hl] at hc
 exact step (hf2 _ x c hx hc) hokp
theorem FK_raw {x : α} {c : List Value} (h : FK d W ok x c) : c = c ∧ c.length = d.sz ∧ ∀ u ∈ c, u.oneCell' = true := ⟨rfl, d.K_len (xg_ h), d.K_one (xg_ h)⟩
theorem N_made {rows : List (List Value)} (hR : (raw d.sz).R e w1 base (fun k => k = W.heap.size) v1 rows) (hg : W.grownBy w1 none) (hat : ∃ b, v1.ownBlock = some b ∧ W.heap.size ≤ b) (hl : rows.length = xs.length) (hf : ∀ (j : Nat) (x : α) (c : List Value), xs[j]? = some x → rows[j]? = some c → FK d W okp x c)
  (hok : ∀ k, okp k → ok k) (hfresh : ok W.heap.size) : N d e w1 base ok v1 xs := by
 obtain ⟨b, hb, hle⟩ := hat
 refine ⟨fun k hk => by rw [hR.1 k hk]; exact hfresh, rows, hl, wn_ hR, fun j x c hx hc => ?_⟩
 refine hl_ (xp_ (zm_ (hf j x c hx hc)) (fun k hk hlt => hg.block k hlt (by simp))) (fun k hk => ⟨hok k hk.1, fun he => ?_⟩)
 rw [hb] at he
 injection he with he
 have := hk.2
 omega
theorem jv_ {Rr : α → List Value → Prop} {sz m : Nat} {A : Option Addr} (h : ReadsRow Rr sz W A m ys) (hR : ∀ x c, Rr x c → c.length = sz ∧ ∀ u ∈ c, u.oneCell' = true) :
  ∃ news : List (List Value), news.length = ys.length ∧ ReadsRow (fun x cs => cs = x ∧ cs.length = sz ∧ ∀ u ∈ cs, u.oneCell' = true) sz W A m news ∧ ∀ (j : Nat) (x : α) (c : List Value), ys[j]? = some x → news[j]? = some c → Rr x c := by
 rcases Nat.eq_zero_or_pos m with h0 | hp
 ·have hy : ys = [] := List.eq_nil_of_length_eq_zero (h.1.trans h0)
  subst hy
  exact ⟨[], rfl, ⟨h0 ▸ rfl, h.2.1, fun hp => by omega⟩, fun j x c hx => by simp at hx⟩
 obtain ⟨ad, rfl, _⟩ := h.2.2 hp
 obtain ⟨inner, hr, hc⟩ := ReadsRow.inner_ h
 refine ⟨eg_ sz ys.length inner, tb_ _ _ _, ⟨by rw [tb_]; exact h.1, h.2.1, fun _ => ⟨ad, rfl, fun j p hj => ?_⟩⟩, fun j x c hx hcc => ?_⟩
 ·have hjl : j < ys.length := by have := (List.getElem?_eq_some_iff.1 hj).1; rwa [tb_] at this
  have hpe := ue_ hj
  have hq := hR _ _ (hr.2 j _ (List.getElem?_eq_getElem hjl))
  rw [← hpe] at hq
  refine ⟨p, hq.1, ⟨rfl, hq⟩, fun i u hu => ?_⟩
  have hu2 : inner[j * sz + i]? = some u := by
   rw [hpe, List.getElem?_take] at hu
   split at hu
   ·rw [List.getElem?_drop] at hu
    exact hu
   cases hu
  exact hc _ u hu2
 rw [ue_ hcc]
 exact hr.2 j x hx
end
section
variable {P : Program} {ops : Array Oper} {rest : List Oper} {o : Oper} {a : Act} {Q : Exit → Act → World → Prop} {Kc : Act → World → Prop} {α : Type}
theorem N_append_step (d : Kd α) {w0 W : World} (base : Nat) (hw : Region.wanted o (yielded ops a.tmps) = true) (s x : Operand) (t e : TypeId) (z : Value) (bytes : Nat)
  (ho : o.op = .call { callee := .builtin .append, args := #[s, x], argTypes := #[t, t] })
  (ht : P.underlying t = some (.slice e)) (hinfo : (P.info? e).map (fun i => (i.zero, i.size, i.bytes)) = some (some z, d.sz, bytes)) (hz : z.cells.size = d.sz) (hs0 : 0 < d.sz) (hb0 : 0 < bytes)
  (v : Value) (xs : List α) (p : α) (cs : List Value) (ok okp : Nat → Prop) (hs : a.eval s = v) (hx : a.eval x = .slice (some ⟨W.heap.size, 0, none⟩) 1 1) (hp : FK d W okp p cs) (hokp : ∀ k, okp k → ok k ∧ some k ≠ v.ownBlock) (hfresh : ∀ k, W.heap.size ≤ k → ok k)
  (HO : N d e W base ok v xs) (HB : Below base w0 W) (hbase : base ≤ W.heap.size) (hl : (xs.length + 1) * bytes ≤ 140737488355328)
  (h : ∀ v1 w1, N d e w1 base ok v1 (xs ++ [p]) → Below base w0 w1 → W.grownBy w1 v.ownBlock → (v1.ownBlock = v.ownBlock ∨ ∃ b, v1.ownBlock = some b ∧ W.heap.size ≤ b) → Kc (a.put o.dst v1) w1) :
  if Region.wanted o (yielded ops a.tmps) = true then Oper.wp P o a (W.alloc (.cells cs.toArray e)) Kc Q else Kc (a.put o.dst undef) (W.alloc (.cells cs.toArray e)) := by
 obtain ⟨h0, rows, hlr, hR, hf⟩ := HO
 refine R_append_step (raw d.sz) base hw s x t e z bytes ho ht hinfo hz hs0 hb0 v rows cs cs (fun _ => True) (fun _ => False) hs hx (FK_raw hp) (fun _ hk => hk.elim) (fun _ _ => trivial) (xt_ hR) HB hbase (by rw [hlr]; exact hl) ?_
 intro v1 w1 hr hb hg hat
 exact h v1 w1 (xm_ h0 hlr hf (ys := [p]) (news := [cs]) rfl (fun j y c hy hc => by
  rcases j with _ | j
  ·simp only [List.getElem?_cons_zero, Option.some.injEq] at hy hc
   rw [← hy, ← hc]; exact hp
  simp at hy) hokp hfresh hr hg hat) hb hg hat
theorem N_append_rows_step (d : Kd α) {w0 W : World} (base : Nat) (hw : Region.wanted o (yielded ops a.tmps) = true) (s x : Operand) (t e : TypeId) (z : Value) (bytes : Nat)
  (ho : o.op = .call { callee := .builtin .append, args := #[s, x], argTypes := #[t, t] })
  (ht : P.underlying t = some (.slice e)) (hinfo : (P.info? e).map (fun i => (i.zero, i.size, i.bytes)) = some (some z, d.sz, bytes)) (hz : z.cells.size = d.sz) (hs0 : 0 < d.sz) (hb0 : 0 < bytes)
  (v : Value) (xs ys : List α) (A : Option Addr) (m c : Nat) (ok okp : Nat → Prop) (hs : a.eval s = v) (hx : a.eval x = .slice A m c)
  (HO : N d e W base ok v xs) (HR : F d W okp A m ys) (hokp : ∀ k, okp k → ok k ∧ some k ≠ v.ownBlock) (hfresh : ∀ k, W.heap.size ≤ k → ok k)
  (HB : Below base w0 W) (hbase : base ≤ W.heap.size) (hl : (xs.length + m) * bytes ≤ 140737488355328)
  (h : ∀ v1 w1, N d e w1 base ok v1 (xs ++ ys) → Below base w0 w1 → W.grownBy w1 v.ownBlock → (v1.ownBlock = v.ownBlock ∨ ∃ b, v1.ownBlock = some b ∧ W.heap.size ≤ b) → Kc (a.put o.dst v1) w1) :
  if Region.wanted o (yielded ops a.tmps) = true then Oper.wp P o a W Kc Q else Kc (a.put o.dst undef) W := by
 obtain ⟨h0, rows, hlr, hR, hf⟩ := HO
 obtain ⟨news, hnl, hnr, hnf⟩ := jv_ (F_rows HR) (fun y c hk => ⟨d.K_len (xg_ hk), d.K_one (xg_ hk)⟩)
 refine R_append_rows_step (raw d.sz) base hw s x t e z bytes ho ht hinfo hz hs0 hb0 v rows news A m c (fun _ => True) (fun _ => False) hs hx (xt_ hR) hnr (fun _ _ hk => hk) (fun _ hk => hk.elim) (fun _ _ => trivial) HB hbase (by rw [hlr]; exact hl) ?_
 intro v1 w1 hr hb hg hat
 exact h v1 w1 (xm_ h0 hlr hf hnl hnf hokp hfresh hr hg hat) hb hg hat
theorem N_lit (d : Kd α) {w0 W : World} (base e : Nat) (hgd : o.guard = none) {N' : Tmp} (_hd : o.dst = some N') {xs : List α} {inner : List Value} {ok okp : Nat → Prop}
  (hrun : (execOp a.eval o).run P W = .ok (.value (.slice (some ⟨W.heap.size, 0, none⟩) xs.length xs.length)) (W.alloc (.cells inner.toArray e)))
  (hrep : Reps (FK d W okp) d.sz xs inner) (hok : ∀ k, okp k → ok k) (hfresh : ok W.heap.size) (HB : Below base w0 W) (hbase : base ≤ W.heap.size) (hm : xs.length ≤ 9223372036854775807)
  (h : ∀ v1 w1, N d e w1 base ok v1 xs → Below base w0 w1 → W.grownBy w1 none → (∃ b, v1.ownBlock = some b ∧ W.heap.size ≤ b) → wpList P ops Q rest (a.put o.dst v1) w1) :
  wpList P ops Q (o :: rest) a W := by
 refine R_lit (raw d.sz) base e hgd _hd (xs := eg_ d.sz xs.length inner) (inner := inner) (ok := fun k => k = W.heap.size) (okp := fun _ => False) (by rw [tb_]; exact hrun) (zl_ hrep (fun y c hk => ⟨d.K_len (xg_ hk), d.K_one (xg_ hk)⟩)) (fun _ hk => hk.elim) rfl HB hbase (by rw [tb_]; exact hm) ?_
 intro v1 w1 hr hb hg hat
 exact h v1 w1 (N_made hr hg hat (tb_ _ _ _) (fun j y c hy hc => by rw [ue_ hc]; exact hrep.2 j y hy) hok hfresh) hb hg hat
theorem N_lit_step (d : Kd α) {w0 W : World} (base e : Nat) (hw : Region.wanted o (yielded ops a.tmps) = true) {N' : Tmp} (_hd : o.dst = some N') {xs : List α} {inner : List Value} {ok okp : Nat → Prop}
  (hrun : (execOp a.eval o).run P W = .ok (.value (.slice (some ⟨W.heap.size, 0, none⟩) xs.length xs.length)) (W.alloc (.cells inner.toArray e)))
  (hrep : Reps (FK d W okp) d.sz xs inner) (hok : ∀ k, okp k → ok k) (hfresh : ok W.heap.size) (HB : Below base w0 W) (hbase : base ≤ W.heap.size) (hm : xs.length ≤ 9223372036854775807)
  (h : ∀ v1 w1, N d e w1 base ok v1 xs → Below base w0 w1 → W.grownBy w1 none → (∃ b, v1.ownBlock = some b ∧ W.heap.size ≤ b) → Kc (a.put o.dst v1) w1) :
  if Region.wanted o (yielded ops a.tmps) = true then Oper.wp P o a W Kc Q else Kc (a.put o.dst undef) W := by
 refine R_lit_step (raw d.sz) base e hw _hd (xs := eg_ d.sz xs.length inner) (inner := inner) (ok := fun k => k = W.heap.size) (okp := fun _ => False) (by rw [tb_]; exact hrun) (zl_ hrep (fun y c hk => ⟨d.K_len (xg_ hk), d.K_one (xg_ hk)⟩)) (fun _ hk => hk.elim) rfl HB hbase (by rw [tb_]; exact hm) ?_
 intro v1 w1 hr hb hg hat
 exact h v1 w1 (N_made hr hg hat (tb_ _ _ _) (fun j y c hy hc => by rw [ue_ hc]; exact hrep.2 j y hy) hok hfresh) hb hg hat
end
end Kd
end Go.Proofs.YtjfbfhoipgldgaaGreatW.PrintWords
end
section
namespace Go.Proofs.YtjfbfhoipgldgaaGreatW.PrintMore
open Go.RowKit Go.Proofs.YtjfbfhoipgldgaaGreatW.PrintWords
namespace Kd
open Go.Proofs.YtjfbfhoipgldgaaGreatW.PrintWords.Kd
end Kd
namespace Kd
open Go.Proofs.YtjfbfhoipgldgaaGreatW.PrintWords.Kd
section
variable {α : Type} {d : Kd α} {e base g N : Nat} {ok : Nat → Prop} {W w1 : World} {u v : Value} {xs : List α}
end
end Kd
theorem ob_ (k k' : IntKind) (x y : Int) : Builtin.max2 (.int k x) (.int k' y) = pure (.int k (if x < y then y else x)) := by simp only [Builtin.max2, gt_iff_lt]
theorem lb_ (k k' : IntKind) (x y : Int) : Builtin.min2 (.int k x) (.int k' y) = pure (.int k (if y < x then y else x)) := by simp only [Builtin.min2]
theorem vb_ (ats : Array TypeId) (ty : TypeId) (a b : Value) : Builtin.max_ ats ty #[a, b] = (Builtin.max2 a b >>= fun s => pure s) := by simp only [Builtin.max_, List.foldlM_cons, List.foldlM_nil]
theorem ub_ (ats : Array TypeId) (ty : TypeId) (a b : Value) : Builtin.min_ ats ty #[a, b] = (Builtin.min2 a b >>= fun s => pure s) := by simp only [Builtin.min_, List.foldlM_cons, List.foldlM_nil]
theorem db_ (ats : Array TypeId) (ty : TypeId) (a b c : Value) : Builtin.max_ ats ty #[a, b, c] = (Builtin.max2 a b >>= fun s => Builtin.max2 s c >>= fun s => pure s) := by simp only [Builtin.max_, List.foldlM_cons, List.foldlM_nil]
theorem cb_ (ats : Array TypeId) (ty : TypeId) (a b c : Value) : Builtin.min_ ats ty #[a, b, c] = (Builtin.min2 a b >>= fun s => Builtin.min2 s c >>= fun s => pure s) := by simp only [Builtin.min_, List.foldlM_cons, List.foldlM_nil]
theorem nb_ (ats : Array TypeId) (ty : TypeId) (a b c d : Value) : Builtin.max_ ats ty #[a, b, c, d] = (Builtin.max2 a b >>= fun s => Builtin.max2 s c >>= fun s => Builtin.max2 s d >>= fun s => pure s) := by simp only [Builtin.max_, List.foldlM_cons, List.foldlM_nil]
theorem kb_ (ats : Array TypeId) (ty : TypeId) (a b c d : Value) : Builtin.min_ ats ty #[a, b, c, d] = (Builtin.min2 a b >>= fun s => Builtin.min2 s c >>= fun s => Builtin.min2 s d >>= fun s => pure s) := by simp only [Builtin.min_, List.foldlM_cons, List.foldlM_nil]
end Go.Proofs.YtjfbfhoipgldgaaGreatW.PrintMore
namespace Go.Proofs.YtjfbfhoipgldgaaGreatW.PrintWords
open Go.RowKit
section
variable {P : Program} {ops : Array Oper} {rest : List Oper} {o : Oper} {a : Act} {Q : Exit → Act → World → Prop} {W : World}
theorem pa_ {f : FuncId} {as : Array Operand} {ts : Array TypeId} (_ho : o.op = .call { callee := .value (.func f), args := as, argTypes := ts }) (h : wpList P ops Q (o :: rest) a W) : wpList P ops Q (o :: rest) a W := h
theorem tg_ {b : Builtin} {xs : Array Operand} {ts : Array TypeId} (_ho : o.op = .call { callee := .builtin b, args := xs, argTypes := ts }) (h : wpList P ops Q (o :: rest) a W) : wpList P ops Q (o :: rest) a W := h
end
def mn (a b : Int) : Int := if b < a then b else a
theorem nf_ (w : World) (n : Nat) : w.drewN n = w.drewN n := rfl
namespace Kd
section
variable {α : Type} {d : Kd α} {e base : Nat} {ok : Nat → Prop} {W w1 : World} {v : Value} {xs : List α}
end
section
variable {α : Type} {d : Kd α} {e base g n cap : Nat} {ok oki okp : Nat → Prop} {W : World} {xs : List α} {i : Int} {c : List Value}
end
section
variable {α : Type} {d : Kd α} {e base b b' g N : Nat} {ok ok1 : Nat → Prop} {W W2 w1 : World} {u v : Value} {xs ys : List α} {S : Nat → Prop}
end
end Kd
end Go.Proofs.YtjfbfhoipgldgaaGreatW.PrintWords
namespace Go.Proofs.YtjfbfhoipgldgaaGreatW.PrintWords
open Go.RowKit
namespace Kd
def V {α : Type} (d : Kd α) (_e : Nat) (W : World) (_base : Nat) (ok : Nat → Prop) (v : Value) (xs : List α) : Prop := ∃ A c, v = .slice A xs.length c ∧ xs.length ≤ c ∧ F d W ok A xs.length xs
section
variable {α β : Type} {d : Kd α} {e base base' n m c g N' lo hi : Nat} {ok ok' S : Nat → Prop} {w W w1 : World} {A : Option Addr} {ad : Addr} {u v v1 : Value} {xs : List α}
theorem N_afterv (h : N d e W base (fun k => ok k ∧ some k ≠ v.ownBlock) u xs) (hg : W.grownBy w1 v.ownBlock) (hat : v1.ownBlock = v.ownBlock ∨ ∃ b, v1.ownBlock = some b ∧ W.heap.size ≤ b) : N d e w1 base (fun k => ok k ∧ some k ≠ v1.ownBlock) u xs := N_after h hg hat
theorem R_newM {M : Nat → Prop} (h : d.R e w1 W.heap.size ok v xs) (hle : w.heap.size ≤ W.heap.size) (hM : ∀ k, w.heap.size ≤ k → M k) : d.R e w1 W.heap.size (fun k => M k ∧ ok k) v xs := R_mono (R_bound h) (fun k hk => ⟨hM k (Nat.le_trans hle hk.2.1), hk.1⟩)
end
end Kd
end Go.Proofs.YtjfbfhoipgldgaaGreatW.PrintWords
end
section
set_option linter.unusedVariables false
namespace Go.Proofs.YtjfbfhoipgldgaaGreat.Chart
def sumTo (n : Nat) (f : Nat → Nat) : Nat := ((List.range n).map f).sum
theorem sumTo_succ (n : Nat) (f : Nat → Nat) : sumTo (n + 1) f = sumTo n f + f n := by
 unfold sumTo
 rw [List.range_succ, List.map_append, List.sum_append]
 simp
theorem bd_ {n : Nat} {f g : Nat → Nat} (h : ∀ i, i < n → f i = g i) : sumTo n f = sumTo n g := by
 unfold sumTo
 rw [List.map_congr_left fun i hi => h i (List.mem_range.1 hi)]
theorem sumTo_zero {n : Nat} {f : Nat → Nat} (h : ∀ i, i < n → f i = 0) : sumTo n f = 0 := by
 induction n with
 | zero => rfl
 | succ n ih => rw [sumTo_succ, ih (fun i hi => h i (by omega)), h n (by omega)]
theorem yu_ {n : Nat} {f : Nat → Nat} (j : Nat) (hj : j < n) (h : ∀ i, i < n → i ≠ j → f i = 0) : sumTo n f = f j := by
 induction n with
 | zero => omega
 | succ n ih =>
  rw [sumTo_succ]
  by_cases e : j = n
  ·subst e
   rw [sumTo_zero (fun i hi => h i (by omega) (by omega)), Nat.zero_add]
  rw [ih (by omega) (fun i hi he => h i (by omega) he), h n (by omega) (by omega), Nat.add_zero]
theorem qn_ {n : Nat} {f : Nat → Nat} (h : sumTo n f ≠ 0) : ∃ i, i < n ∧ f i ≠ 0 := by
 induction n with
 | zero => exact absurd rfl h
 | succ n ih =>
  rw [sumTo_succ] at h
  by_cases e : f n = 0
  ·obtain ⟨i, hi, hf⟩ := ih (by omega)
   exact ⟨i, by omega, hf⟩
  exact ⟨n, by omega, e⟩
section
variable (T : Int → Nat → Nat → Nat) (n : Nat)
def E (F : Int → Nat → Nat → Nat) (x : Int) (p q : Nat) : Nat := if x < 0 then T x p q else F x p q
def stepW (F : Int → Nat → Nat → Nat) (w : Nat → Nat) (x : Int) : Nat → Nat := fun q => sumTo (n + 1) fun m => w m * E T F x m q
def ways (F : Int → Nat → Nat → Nat) (l : List Int) (p : Nat) : Nat → Nat := l.foldl (stepW T n F) (fun q => if q = p then 1 else 0)
theorem ways_nil (F : Int → Nat → Nat → Nat) (p q : Nat) : ways T n F [] p q = if q = p then 1 else 0 := rfl
theorem ways_snoc (F : Int → Nat → Nat → Nat) (l : List Int) (x : Int) (p q : Nat) : ways T n F (l ++ [x]) p q = sumTo (n + 1) fun m => ways T n F l p m * E T F x m q := by
 unfold ways
 rw [List.foldl_append]
 rfl
def Fwd (F : Int → Nat → Nat → Nat) : Prop := ∀ x p q, ¬ p < q → F x p q = 0
theorem E_fwd {F : Int → Nat → Nat → Nat} (hT : Fwd T) (hF : Fwd F) : Fwd (E T F) := fun x p q h => by
 unfold E
 split
 ·exact hT x p q h
 exact hF x p q h
theorem bh_ {P : List Int → Prop} (h0 : P []) (hs : ∀ l x, P l → P (l ++ [x])) : ∀ l, P l := by
 intro l
 have : ∀ m : List Int, P m.reverse := by
  intro m
  induction m with
  | nil => exact h0
  | cons x m ih => rw [List.reverse_cons]; exact hs _ _ ih
 simpa using this l.reverse
theorem ways_len {F : Int → Nat → Nat → Nat} (hT : Fwd T) (hF : Fwd F) (p : Nat) : ∀ (l : List Int) (q : Nat), ways T n F l p q ≠ 0 → p + l.length ≤ q := by
 refine bh_ ?_ ?_
 ·intro q h
  rw [ways_nil] at h
  split at h
  ·simp; omega
  exact absurd rfl h
 intro l x ih q h
 rw [ways_snoc] at h
 obtain ⟨m, hm, hf⟩ := qn_ h
 have h1 : ways T n F l p m ≠ 0 := fun e => hf (by rw [e, Nat.zero_mul])
 have h2 : m < q := by
  apply Classical.byContradiction
  intro hn
  exact hf (by rw [E_fwd T hT hF x m q hn, Nat.mul_zero])
 have h3 := ih m h1
 rw [List.length_append]
 simp
 omega
theorem if_ {F : Int → Nat → Nat → Nat} (x : Int) (p q : Nat) (hp : p ≤ n) : ways T n F [x] p q = E T F x p q := by
 have := ways_snoc T n F [] x p q
 rw [List.nil_append] at this
 rw [this, yu_ p (by omega) (fun i _ hi => by rw [ways_nil, if_neg hi, Nat.zero_mul]), ways_nil, if_pos rfl, Nat.one_mul]
theorem yr_ {F G : Int → Nat → Nat → Nat} (hT : Fwd T) (hF : Fwd F) (hG : Fwd G) (p : Nat) : ∀ (l : List Int) (q : Nat), (∀ x a b, 0 ≤ x → p ≤ a → a ≤ n → a < b → b ≤ q → F x a b = G x a b) → ways T n F l p q = ways T n G l p q := by
 refine bh_ ?_ ?_
 ·intro q _
  rw [ways_nil, ways_nil]
 intro l x ih q h
 rw [ways_snoc, ways_snoc]
 refine bd_ fun m hm => ?_
 by_cases hmq : m < q
 ·rw [ih m (fun y a b h0 h1 h1' h2 h3 => h y a b h0 h1 h1' h2 (by omega))]
  by_cases hz : ways T n G l p m = 0
  ·rw [hz, Nat.zero_mul, Nat.zero_mul]
  have := ways_len T n hT hG p l m hz
  unfold E
  split
  ·rfl
  rw [h x m q (by omega) (by omega) (by omega) hmq (Nat.le_refl _)]
 rw [E_fwd T hT hF x m q hmq, E_fwd T hT hG x m q hmq, Nat.mul_zero, Nat.mul_zero]
theorem ek_ {F G : Int → Nat → Nat → Nat} (hT : Fwd T) (hF : Fwd F) (hG : Fwd G) (p q : Nat) (l : List Int) (x : Int) (hl : l ≠ []) (h : ∀ y a b, 0 ≤ y → p ≤ a → a ≤ n → a < b → b ≤ q → b - a < q - p → F y a b = G y a b) :
  ways T n F (l ++ [x]) p q = ways T n G (l ++ [x]) p q := by
 rw [ways_snoc, ways_snoc]
 refine bd_ fun m hm => ?_
 have hlen : 0 < l.length := List.length_pos_iff.2 hl
 by_cases hmq : m < q
 ·by_cases hpm : p < m
  ·rw [yr_ T n hT hF hG p l m (fun y a b h0 h1 h1' h2 h3 => h y a b h0 h1 h1' h2 (by omega) (by omega))]
   unfold E
   split
   ·rfl
   rw [h x m q (by omega) (by omega) (by omega) hmq (Nat.le_refl _) (by omega)]
  have z1 : ways T n F l p m = 0 := Classical.byContradiction fun e => by have := ways_len T n hT hF p l m e; omega
  have z2 : ways T n G l p m = 0 := Classical.byContradiction fun e => by have := ways_len T n hT hG p l m e; omega
  rw [z1, z2, Nat.zero_mul, Nat.zero_mul]
 rw [E_fwd T hT hF x m q hmq, E_fwd T hT hG x m q hmq, Nat.mul_zero, Nat.mul_zero]
variable (rules : List (Int × List Int))
def sumR (F : Int → Nat → Nat → Nat) (s : Int) (p q : Nat) : Nat := ((rules.filter fun r => r.1 = s).map fun r => ways T n F r.2 p q).sum
def NF : Nat → Int → Nat → Nat → Nat
 | 0 => fun _ _ _ => 0
 | k + 1 => sumR T n rules (NF k)
theorem sum_map_zero {α : Type} {l : List α} {f : α → Nat} (h : ∀ x ∈ l, f x = 0) : (l.map f).sum = 0 := by
 induction l with
 | nil => rfl
 | cons x l ih => rw [List.map_cons, List.sum_cons, h x List.mem_cons_self, ih fun y hy => h y (List.mem_cons_of_mem _ hy)]
theorem dq_ {F : Int → Nat → Nat → Nat} (hT : Fwd T) (hF : Fwd F) (hr : ∀ r ∈ rules, r.2 ≠ []) : Fwd (sumR T n rules F) := fun s p q h => by
 unfold sumR
 refine sum_map_zero fun r hr' => Classical.byContradiction fun e => ?_
 have h1 := ways_len T n hT hF p r.2 q e
 have h2 : 0 < r.2.length := List.length_pos_iff.2 (hr r (List.mem_filter.1 hr').1)
 omega
theorem wp_ (hT : Fwd T) (hr : ∀ r ∈ rules, r.2 ≠ []) : ∀ k, Fwd (NF T n rules k)
 | 0 => fun _ _ _ _ => rfl
 | k + 1 => dq_ T n rules hT (wp_ hT hr k) hr
def Ranked (rank : Int → Nat) : Prop := (∀ s, rank s ≤ 20) ∧ ∀ r ∈ rules, ∀ x, 0 ≤ x → r.2 = [x] → rank x < rank r.1
theorem ul_ : ∀ l : List Int, l = [] ∨ (∃ x, l = [x]) ∨ ∃ l' x, l = l' ++ [x] ∧ l' ≠ [] := by
 refine bh_ (.inl rfl) fun l x _ => .inr ?_
 by_cases h : l = []
 ·exact .inl ⟨x, by rw [h]; rfl⟩
 exact .inr ⟨l, x, rfl, h⟩
theorem kw_ (hT : Fwd T) (hr : ∀ r ∈ rules, r.2 ≠ []) (rank : Int → Nat) (hk : Ranked rules rank) : ∀ (k : Nat) (s : Int) (p q : Nat), p ≤ n → (q - p) * 21 + rank s < k → NF T n rules k s p q = NF T n rules (k + 1) s p q := by
 intro k
 induction k with
 | zero => intro s p q _ h; omega
 | succ k ih =>
  intro s p q hp h
  show sumR T n rules (NF T n rules k) s p q = sumR T n rules (NF T n rules (k + 1)) s p q
  unfold sumR
  rw [List.map_congr_left fun r hr' => ?_]
  obtain ⟨hrm, hrs⟩ := List.mem_filter.1 hr'
  have hrs : r.1 = s := of_decide_eq_true hrs
  have F1 := wp_ T n rules hT hr k
  have F2 := wp_ T n rules hT hr (k + 1)
  rcases ul_ r.2 with h0 | ⟨x, h1⟩ | ⟨l, x, h2, h3⟩
  ·exact absurd h0 (hr r hrm)
  ·rw [h1, if_ T n x p q hp, if_ T n x p q hp]
   unfold E
   split
   ·rfl
   have := hk.2 r hrm x (by omega) h1
   exact ih x p q hp (by rw [hrs] at this; omega)
  rw [h2]
  refine ek_ T n hT F1 F2 p q l x h3 fun y a b h0 h1 ha h4 h5 h6 => ?_
  exact ih y a b ha (by have := hk.1 y; omega)
def Num : Int → Nat → Nat → Nat := NF T n rules ((n + 1) * 21 + 21)
theorem Num_fwd (hT : Fwd T) (hr : ∀ r ∈ rules, r.2 ≠ []) : Fwd (Num T n rules) := wp_ T n rules hT hr _
theorem rt_ (hT : Fwd T) (hr : ∀ r ∈ rules, r.2 ≠ []) (rank : Int → Nat) (hk : Ranked rules rank) (s : Int) (p q : Nat) (hq : q ≤ n) : Num T n rules s p q = sumR T n rules (Num T n rules) s p q := by
 by_cases hpq : p < q
 ·have h1 := kw_ T n rules hT hr rank hk ((n + 1) * 21 + 21) s p q (by omega) (by
   have := hk.1 s
   have h2 : (q - p) * 21 ≤ n * 21 := Nat.mul_le_mul_right _ (by omega)
   omega)
  exact h1
 rw [Num_fwd T n rules hT hr s p q hpq, dq_ T n rules hT (Num_fwd T n rules hT hr) hr s p q hpq]
end
def cap (k x : Nat) : Nat := min x k
theorem gl_ (k x y : Nat) : cap k (cap k x + y) = cap k (x + y) := by unfold cap; omega
theorem cap_add2 (k x y : Nat) : cap k (cap k x + cap k y) = cap k (x + y) := by unfold cap; omega
theorem mu_ (k x y : Nat) : cap k (cap k x * cap k y) = cap k (x * y) := by
 unfold cap
 by_cases hx : x ≤ k
 ·rw [Nat.min_eq_left hx]
  by_cases hy : y ≤ k
  ·rw [Nat.min_eq_left hy]
  rw [Nat.min_eq_right (by omega : k ≤ y)]
  rcases Nat.eq_zero_or_pos x with rfl | hp
  ·simp
  have h1 : k ≤ x * k := Nat.le_mul_of_pos_left k hp
  have h2 : x * k ≤ x * y := Nat.mul_le_mul_left x (by omega)
  rw [Nat.min_eq_right h1, Nat.min_eq_right (Nat.le_trans h1 h2)]
 rw [Nat.min_eq_right (by omega : k ≤ x)]
 rcases Nat.eq_zero_or_pos y with rfl | hp
 ·simp
 by_cases hy : y ≤ k
 ·rw [Nat.min_eq_left hy]
  have h1 : k ≤ k * y := Nat.le_mul_of_pos_right k hp
  have h2 : k * y ≤ x * y := Nat.mul_le_mul_right y (by omega)
  rw [Nat.min_eq_right h1, Nat.min_eq_right (Nat.le_trans h1 h2)]
 rw [Nat.min_eq_right (by omega : k ≤ y)]
 rcases Nat.eq_zero_or_pos k with rfl | hk
 ·simp
 have h1 : k ≤ k * k := Nat.le_mul_of_pos_left k hk
 have h2 : k * k ≤ x * y := Nat.mul_le_mul (by omega) (by omega)
 rw [Nat.min_eq_right h1, Nat.min_eq_right (Nat.le_trans h1 h2)]
theorem cap_le (k x : Nat) : cap k x ≤ k := Nat.min_le_right _ _
end Go.Proofs.YtjfbfhoipgldgaaGreat.Chart
namespace Go.Proofs.YtjfbfhoipgldgaaGreat.Chart
structure St where
 cells : Int → Nat → Nat → Nat
 items : Nat → Nat → Nat → Nat → Nat
 ends : Nat → Nat → Nat → List Nat
def St.none : St := ⟨fun _ _ _ => 0, fun _ _ _ _ => 0, fun _ _ _ => []⟩
section
variable (T : Int → Nat → Nat → Nat) (n : Nat) (rules : List (Int × List Int)) (most : Nat)
def lhsOf (i : Nat) : Int := (rules.getD i (0, [])).1
def rhsOf (i : Nat) : List Int := (rules.getD i (0, [])).2
def St.add (st : St) (i d f t v : Nat) : St :=
 if v = 0 then st
 else if d = (rhsOf rules i).length then { st with cells := fun s p q => if s = lhsOf rules i ∧ p = f ∧ q = t then cap most (st.cells s p q + v) else st.cells s p q }
 else { st with
  items := fun i' d' f' t' => if i' = i ∧ d' = d ∧ f' = f ∧ t' = t then cap most (st.items i d f t + v) else st.items i' d' f' t'
  ends := fun i' d' f' => if i' = i ∧ d' = d ∧ f' = f ∧ st.items i d f t = 0 then st.ends i d f ++ [t] else st.ends i' d' f' }
def St.of (st : St) (x : Int) (p q : Nat) : Nat := if x < 0 then cap most (T x p q) else st.cells x p q
def St.long1 (st : St) (i d f t : Nat) (m : Nat) : St := if m < t then st.add rules most i d f t (cap most (st.items i (d - 1) f m * st.of T most ((rhsOf rules i).getD (d - 1) 0) m t)) else st
def St.long2 (st : St) (i d f t : Nat) : St := (st.ends i (d - 1) f).foldl (fun st m => st.long1 T rules most i d f t m) st
def St.long3 (st : St) (i f t : Nat) : Nat → St
 | 0 => st
 | e + 1 => if 2 ≤ e + 1 then (st.long3 i f t e).long2 T rules most i (e + 1) f t else st.long3 i f t e
def St.longer (st : St) (f t : Nat) : Nat → St
 | 0 => st
 | i + 1 => (st.longer f t i).long3 T rules most i f t (rhsOf rules i).length
def St.alone (st : St) (s : Int) (f t : Nat) : Nat → St
 | 0 => st
 | i + 1 => let st' := st.alone s f t i; if lhsOf rules i = s ∧ (rhsOf rules i).length = 1 then st'.add rules most i 1 f t (st'.of T most ((rhsOf rules i).getD 0 0) f t) else st'
def St.begun (st : St) (f t : Nat) : Nat → St
 | 0 => st
 | i + 1 => let st' := st.begun f t i; if 1 < (rhsOf rules i).length then st'.add rules most i 1 f t (st'.of T most ((rhsOf rules i).getD 0 0) f t) else st'
def St.span (st : St) (order : List Int) (f t : Nat) : St :=
 (order.foldl (fun st s => st.alone T rules most s f t rules.length) (st.longer T rules most f t rules.length)).begun T rules most f t rules.length
def St.row (st : St) (order : List Int) (t : Nat) (fs : List Nat) : St := fs.foldl (fun st f => if f < t then st.span T rules most order f t else st) st
def St.fill (order : List Int) (froms tos : List Nat) : St := tos.foldl (fun st t => st.row T rules most order t froms.reverse) St.none
end
end Go.Proofs.YtjfbfhoipgldgaaGreat.Chart
namespace Go.Proofs.YtjfbfhoipgldgaaGreat.Chart
section
variable (T : Int → Nat → Nat → Nat) (n : Nat) (rules : List (Int × List Int)) (most : Nat)
theorem mo_ {k x y : Nat} (h : cap k x = cap k y) (z : Nat) : cap k (z + x) = cap k (z + y) := by
 unfold cap at *; omega
theorem cap_pos {k x : Nat} (hk : 0 < k) (hx : x ≠ 0) : cap k x ≠ 0 := by unfold cap; omega
theorem add_zero (st : St) (i d f t : Nat) : st.add rules most i d f t 0 = st := by
 unfold St.add; rw [if_pos rfl]
theorem zj_ (hm : 0 < most) (st : St) (i d f t : Nat) {v w : Nat} (h : cap most v = cap most w) : st.add rules most i d f t v = st.add rules most i d f t w := by
 have hz : v = 0 ↔ w = 0 := by unfold cap at h; omega
 unfold St.add
 by_cases hv : v = 0
 ·rw [if_pos hv, if_pos (hz.1 hv)]
 rw [if_neg hv, if_neg (fun e => hv (hz.2 e))]
 split
 ·congr 1
  funext s p q
  split
  ·exact mo_ h _
  rfl
 congr 1
 funext i' d' f' t'
 split
 ·exact mo_ h _
 rfl
theorem tp_ (hm : 0 < most) (st : St) (i d f t v w : Nat) : (st.add rules most i d f t v).add rules most i d f t w = st.add rules most i d f t (v + w) := by
 by_cases hv : v = 0
 ·subst hv; rw [add_zero, Nat.zero_add]
 by_cases hw : w = 0
 ·subst hw; rw [add_zero, Nat.add_zero]
 have hvw : ¬ v + w = 0 := by omega
 unfold St.add
 simp only [if_neg hv, if_neg hw, if_neg hvw]
 by_cases hd : d = (rhsOf rules i).length
 ·simp only [if_pos hd]
  congr 1
  funext s p q
  by_cases hc : s = lhsOf rules i ∧ p = f ∧ q = t
  ·simp only [if_pos hc]
   rw [gl_, Nat.add_assoc]
  simp only [if_neg hc]
 simp only [if_neg hd]
 congr 1
 ·funext i' d' f' t'
  by_cases hc : i' = i ∧ d' = d ∧ f' = f ∧ t' = t
  ·simp only [if_pos hc, and_self, if_true]
   rw [gl_, Nat.add_assoc]
  simp only [if_neg hc]
 funext i' d' f'
 have hn : cap most (st.items i d f t + v) ≠ 0 := cap_pos hm (by omega)
 simp only [and_self, if_true]
 rw [if_neg (fun h => hn h.2.2.2)]
theorem cf_ (st : St) (i d f t v : Nat) {i' d' f' t' : Nat} (h : ¬ (i' = i ∧ d' = d ∧ f' = f ∧ t' = t)) : (st.add rules most i d f t v).items i' d' f' t' = st.items i' d' f' t' := by
 unfold St.add
 split
 ·rfl
 split
 ·rfl
 simp only [if_neg h]
theorem iw_ (st : St) (i d f t v : Nat) (hd : d ≠ (rhsOf rules i).length) (hle : st.items i d f t ≤ most) : (st.add rules most i d f t v).items i d f t = cap most (st.items i d f t + v) := by
 unfold St.add
 split
 ·rename_i hv; subst hv; unfold cap; omega
 first | (rw [if_neg hd]; simp; done) | simp
theorem um_ (st : St) (i d f t v : Nat) (hd : d = (rhsOf rules i).length) : (st.add rules most i d f t v).items = st.items := by
 unfold St.add
 split
 ·rfl
 first | rw [if_pos hd] | rfl
theorem df_ (st : St) (i d f t v : Nat) {s : Int} {p q : Nat} (h : ¬ (s = lhsOf rules i ∧ p = f ∧ q = t ∧ d = (rhsOf rules i).length)) : (st.add rules most i d f t v).cells s p q = st.cells s p q := by
 unfold St.add
 split
 ·rfl
 split
 ·rename_i hd
  simp only
  rw [if_neg (fun e => h ⟨e.1, e.2.1, e.2.2, hd⟩)]
 rfl
theorem jw_ (st : St) (i d f t v : Nat) (hd : d = (rhsOf rules i).length) (hle : st.cells (lhsOf rules i) f t ≤ most) : (st.add rules most i d f t v).cells (lhsOf rules i) f t = cap most (st.cells (lhsOf rules i) f t + v) := by
 unfold St.add
 split
 ·rename_i hv; subst hv; unfold cap; omega
 first | (rw [if_pos hd]; simp; done) | simp
theorem add_ends (hm : 0 < most) (st : St) (i d f t v : Nat) (h : ∀ i d p, (st.ends i d p).Nodup ∧ ∀ q, q ∈ st.ends i d p ↔ st.items i d p q ≠ 0) : ∀ i' d' p, ((st.add rules most i d f t v).ends i' d' p).Nodup ∧ ∀ q, q ∈ (st.add rules most i d f t v).ends i' d' p ↔ (st.add rules most i d f t v).items i' d' p q ≠ 0 := by
 intro i' d' p
 unfold St.add
 split
 ·exact h i' d' p
 rename_i hv
 split
 ·exact h i' d' p
 simp only
 by_cases hc : i' = i ∧ d' = d ∧ p = f
 ·obtain ⟨rfl, rfl, rfl⟩ := hc
  have hh := h i' d' p
  by_cases hz : st.items i' d' p t = 0
  ·rw [if_pos ⟨rfl, rfl, rfl, hz⟩]
   have hnt : t ∉ st.ends i' d' p := fun hm => (hh.2 t).1 hm hz
   refine ⟨List.nodup_append.2 ⟨hh.1, List.nodup_cons.2 ⟨by simp, List.nodup_nil⟩, fun a ha b hb e => hnt (by rw [List.mem_singleton] at hb; rw [← hb, ← e]; exact ha)⟩, fun q => ?_⟩
   rw [List.mem_append, List.mem_singleton]
   by_cases hq : q = t
   ·subst hq
    simp only [and_self, if_true]
    exact ⟨fun _ => cap_pos hm (by omega), fun _ => .inr trivial⟩
   rw [if_neg (fun e => hq e.2.2.2)]
   exact ⟨fun h => (hh.2 q).1 (h.resolve_right hq), fun h => .inl ((hh.2 q).2 h)⟩
  rw [if_neg (fun e => hz e.2.2.2)]
  refine ⟨hh.1, fun q => ?_⟩
  by_cases hq : q = t
  ·subst hq
   simp only [and_self, if_true]
   exact ⟨fun _ => cap_pos hm (by omega), fun _ => (hh.2 q).2 hz⟩
  rw [if_neg (fun e => hq e.2.2.2)]
  exact hh.2 q
 rw [if_neg (fun e => hc ⟨e.1, e.2.1, e.2.2.1⟩)]
 refine ⟨(h i' d' p).1, fun q => ?_⟩
 rw [if_neg (fun e => hc ⟨e.1, e.2.1, e.2.2.1⟩)]
 exact (h i' d' p).2 q
theorem long2_eq (hm : 0 < most) (i d f t : Nat) (hd : 1 ≤ d) : ∀ (L : List Nat) (st : St), (∀ m ∈ L, f < m) →
  L.foldl (fun st m => st.long1 T rules most i d f t m) st = st.add rules most i d f t ((L.map fun m => if m < t then cap most (st.items i (d - 1) f m * st.of T most ((rhsOf rules i).getD (d - 1) 0) m t) else 0).sum) := by
 intro L
 induction L with
 | nil => intro st _; rw [List.foldl_nil, List.map_nil, List.sum_nil, add_zero]
 | cons m L ih =>
  intro st hL
  rw [List.foldl_cons, ih _ (fun x hx => hL x (List.mem_cons_of_mem _ hx)), List.map_cons, List.sum_cons]
  have hfm := hL m List.mem_cons_self
  have key : ∀ v, (L.map fun m' => if m' < t then cap most ((st.add rules most i d f t v).items i (d - 1) f m' * (st.add rules most i d f t v).of T most ((rhsOf rules i).getD (d - 1) 0) m' t) else 0) = L.map fun m' => if m' < t then cap most (st.items i (d - 1) f m' * st.of T most ((rhsOf rules i).getD (d - 1) 0) m' t) else 0 := by
   intro v
   refine List.map_congr_left fun m' hm' => ?_
   have h1 : (st.add rules most i d f t v).items i (d - 1) f m' = st.items i (d - 1) f m' := cf_ rules most st i d f t v (fun e => by omega)
   have h2 : (st.add rules most i d f t v).of T most ((rhsOf rules i).getD (d - 1) 0) m' t = st.of T most ((rhsOf rules i).getD (d - 1) 0) m' t := by
    unfold St.of
    split
    ·rfl
    exact df_ rules most st i d f t v (fun e => by have := hL m' (List.mem_cons_of_mem _ hm'); omega)
   rw [h1, h2]
  show (st.long1 T rules most i d f t m).add rules most i d f t _ = _
  unfold St.long1
  by_cases hmt : m < t
  ·simp only [if_pos hmt]
   rw [key, tp_ rules most hm]
  simp only [if_neg hmt]
  rw [Nat.zero_add]
end
end Go.Proofs.YtjfbfhoipgldgaaGreat.Chart
namespace Go.Proofs.YtjfbfhoipgldgaaGreat.Chart
theorem perm_sum {l l' : List Nat} (h : l.Perm l') : l.sum = l'.sum := by
 induction h with
 | nil => rfl
 | cons x _ ih => rw [List.sum_cons, List.sum_cons, ih]
 | swap x y l => simp only [List.sum_cons]; omega
 | trans _ _ h1 h2 => exact h1.trans h2
theorem xu_ (g : Nat → Nat) : ∀ (k : Nat) (L : List Nat), L.Nodup → (∀ m ∈ L, m < k) → (∀ m, m < k → m ∉ L → g m = 0) → (L.map g).sum = sumTo k g := by
 intro k
 induction k with
 | zero =>
  intro L _ h _
  match L with
  | [] => rfl
  | m :: _ => exact absurd (h m List.mem_cons_self) (Nat.not_lt_zero _)
 | succ k ih =>
  intro L hn hl hz
  rw [sumTo_succ]
  by_cases hk : k ∈ L
  ·have hp := List.perm_cons_erase hk
   rw [perm_sum (hp.map g), List.map_cons, List.sum_cons]
   have hn' : (k :: L.erase k).Nodup := hp.nodup_iff.1 hn
   have hne := (List.nodup_cons.1 hn').1
   rw [ih (L.erase k) (List.nodup_cons.1 hn').2 (fun m hm => ?_) (fun m hm hmn => ?_)]
   ·omega
   ·have h1 := hl m (List.mem_of_mem_erase hm)
    have h2 : m ≠ k := fun e => hne (e ▸ hm)
    omega
   refine hz m (by omega) fun h => hmn ?_
   have h2 : m ≠ k := by omega
   exact (List.mem_erase_of_ne h2).2 h
  rw [ih L hn (fun m hm => ?_) (fun m hm hmn => hz m (by omega) hmn), hz k (by omega) hk, Nat.add_zero]
  have h1 := hl m hm
  have h2 : m ≠ k := fun e => hk (e ▸ hm)
  omega
theorem xk_ {α : Type} (k : Nat) (f : α → Nat) : ∀ (l : List α) (y : Nat), cap k (y + (l.map fun x => cap k (f x)).sum) = cap k (y + (l.map f).sum)
 | [], y => rfl
 | x :: l, y => by
  rw [List.map_cons, List.map_cons, List.sum_cons, List.sum_cons]
  have h1 := xk_ k f l (y + cap k (f x))
  have h2 : cap k (y + cap k (f x) + (l.map f).sum) = cap k (y + (f x) + (l.map f).sum) := by unfold cap; omega
  rw [← Nat.add_assoc, h1, h2, Nat.add_assoc]
theorem fl_ (k x : Nat) : cap k (cap k x) = cap k x := by unfold cap; omega
section
variable (T : Int → Nat → Nat → Nat) (n : Nat) (rules : List (Int × List Int)) (most : Nat)
def W (i d p q : Nat) : Nat := ways T n (Num T n rules) ((rhsOf rules i).take d) p q
theorem sl_ (l : List Int) (d : Nat) (hd : 1 ≤ d) (hl : d ≤ l.length) : l.take d = l.take (d - 1) ++ [l.getD (d - 1) 0] := by
 obtain ⟨e, rfl⟩ : ∃ e, d = e + 1 := ⟨d - 1, by omega⟩
 rw [Nat.add_sub_cancel, List.take_succ_eq_append_getElem (by omega), List.getD_eq_getElem?_getD, List.getElem?_eq_getElem (by omega)]
 rfl
theorem W_succ (i d p q : Nat) (hd : 1 ≤ d) (hl : d ≤ (rhsOf rules i).length) : W T n rules i d p q = sumTo (n + 1) fun m => W T n rules i (d - 1) p m * E T (Num T n rules) ((rhsOf rules i).getD (d - 1) 0) m q := by
 unfold W
 rw [sl_ _ d hd hl, ways_snoc]
theorem us_ (hm : 0 < most) (hT : Fwd T) (hne : ∀ r ∈ rules, r.2 ≠ []) (i d f t : Nat) (hd : 2 ≤ d) (hdl : d ≤ (rhsOf rules i).length) (ht : t ≤ n) (st : St)
  (hit : ∀ m, m < t → st.items i (d - 1) f m = cap most (W T n rules i (d - 1) f m)) (hnd : (st.ends i (d - 1) f).Nodup) (hmem : ∀ q, q ∈ st.ends i (d - 1) f ↔ st.items i (d - 1) f q ≠ 0) (hlow : ∀ m ∈ st.ends i (d - 1) f, f < m ∧ m ≤ n)
  (hof : ∀ x m, f < m → m < t → st.of T most x m t = cap most (E T (Num T n rules) x m t)) : st.long2 T rules most i d f t = st.add rules most i d f t (W T n rules i d f t) := by
 unfold St.long2
 rw [long2_eq T rules most hm i d f t (by omega) _ st (fun m h => (hlow m h).1)]
 refine zj_ rules most hm st i d f t ?_
 rw [W_succ T n rules i d f t (by omega) hdl]
 have h1 : ((st.ends i (d - 1) f).map fun m => if m < t then cap most (st.items i (d - 1) f m * st.of T most ((rhsOf rules i).getD (d - 1) 0) m t) else 0) = (st.ends i (d - 1) f).map fun m => cap most (W T n rules i (d - 1) f m * E T (Num T n rules) ((rhsOf rules i).getD (d - 1) 0) m t) := by
  refine List.map_congr_left fun m h => ?_
  by_cases hmt : m < t
  ·rw [if_pos hmt, hit m hmt, hof _ m (hlow m h).1 hmt, mu_]
  rw [if_neg hmt, E_fwd T hT (Num_fwd T n rules hT hne) _ m t hmt, Nat.mul_zero]
  rfl
 rw [h1]
 have h2 := xk_ most (fun m => W T n rules i (d - 1) f m * E T (Num T n rules) ((rhsOf rules i).getD (d - 1) 0) m t) (st.ends i (d - 1) f) 0
 rw [Nat.zero_add, Nat.zero_add] at h2
 rw [h2, xu_ _ (n + 1) _ hnd (fun m h => by have := hlow m h; omega) (fun m hm1 hm2 => ?_)]
 by_cases hmt : m < t
 ·have h3 : st.items i (d - 1) f m = 0 := Classical.byContradiction fun e => hm2 ((hmem m).2 e)
  rw [hit m hmt] at h3
  have h4 : W T n rules i (d - 1) f m = 0 := by unfold cap at h3; omega
  rw [h4, Nat.zero_mul]
 rw [E_fwd T hT (Num_fwd T n rules hT hne) _ m t hmt, Nat.mul_zero]
end
end Go.Proofs.YtjfbfhoipgldgaaGreat.Chart
namespace Go.Proofs.YtjfbfhoipgldgaaGreat.Chart
section
variable (T : Int → Nat → Nat → Nat) (n : Nat) (rules : List (Int × List Int)) (most : Nat)
structure Stage (st0 : St) (f t : Nat) (C : Int → Nat) (I : Nat → Nat → Nat) (st : St) : Prop where
 cells : ∀ s p q, ¬ (p = f ∧ q = t) → st.cells s p q = st0.cells s p q
 items : ∀ i d p q, ¬ (p = f ∧ q = t) → st.items i d p q = st0.items i d p q
 cell : ∀ s, st.cells s f t = cap most (C s)
 item : ∀ i d, st.items i d f t = cap most (I i d)
 ends : ∀ i d p, (st.ends i d p).Nodup ∧ ∀ q, q ∈ st.ends i d p ↔ st.items i d p q ≠ 0
theorem Stage.congr {st0 : St} {f t : Nat} {C C' : Int → Nat} {I I' : Nat → Nat → Nat} {st : St} (h : Stage most st0 f t C I st) (hC : ∀ s, C s = C' s) (hI : ∀ i d, I i d = I' i d) : Stage most st0 f t C' I' st := by
 rw [← funext hC, ← (funext fun i => funext fun d => hI i d : I = I')]
 exact h
theorem Stage.add (hm : 0 < most) {st0 : St} {f t : Nat} {C : Int → Nat} {I : Nat → Nat → Nat} {st : St} (h : Stage most st0 f t C I st) (i d v : Nat) :
  Stage most st0 f t (fun s => if s = lhsOf rules i ∧ d = (rhsOf rules i).length then C s + v else C s) (fun i' d' => if i' = i ∧ d' = d ∧ d ≠ (rhsOf rules i).length then I i' d' + v else I i' d') (st.add rules most i d f t v) := by
 refine ⟨fun s p q hpq => ?_, fun i' d' p q hpq => ?_, fun s => ?_, fun i' d' => ?_, add_ends rules most hm st i d f t v h.ends⟩
 ·rw [df_ rules most st i d f t v (fun e => hpq ⟨e.2.1, e.2.2.1⟩)]
  exact h.cells s p q hpq
 ·rw [cf_ rules most st i d f t v (fun e => hpq ⟨e.2.2.1, e.2.2.2⟩)]
  exact h.items i' d' p q hpq
 ·by_cases hc : s = lhsOf rules i ∧ d = (rhsOf rules i).length
  ·rw [if_pos hc, hc.1, jw_ rules most st i d f t v hc.2 (by rw [h.cell]; exact cap_le _ _), h.cell, gl_]
  rw [if_neg hc, df_ rules most st i d f t v (fun e => hc ⟨e.1, e.2.2.2⟩)]
  exact h.cell s
 by_cases hd : d = (rhsOf rules i).length
 ·rw [if_neg (fun e => e.2.2 hd), um_ rules most st i d f t v hd]
  exact h.item i' d'
 by_cases hc : i' = i ∧ d' = d
 ·obtain ⟨rfl, rfl⟩ := hc
  rw [if_pos ⟨rfl, rfl, hd⟩, iw_ rules most st i' d' f t v hd (by rw [h.item]; exact cap_le _ _), h.item, gl_]
 rw [if_neg (fun e => hc ⟨e.1, e.2.1⟩), cf_ rules most st i d f t v (fun e => hc ⟨e.1, e.2.1⟩)]
 exact h.item i' d'
structure Ready (st0 : St) (f t : Nat) : Prop where
 ft : f < t
 tn : t ≤ n
 cell : ∀ s, st0.cells s f t = 0
 item : ∀ i d, st0.items i d f t = 0
 cells : ∀ s m, f < m → m < t → st0.cells s m t = cap most (Num T n rules s m t)
 items : ∀ i d m, 1 ≤ d → d < (rhsOf rules i).length → m < t → st0.items i d f m = cap most (W T n rules i d f m)
 low : ∀ i d m, st0.items i d f m ≠ 0 → f < m ∧ m ≤ n
 ends : ∀ i d p, (st0.ends i d p).Nodup ∧ ∀ q, q ∈ st0.ends i d p ↔ st0.items i d p q ≠ 0
theorem Stage.start {st0 : St} {f t : Nat} (h : Ready T n rules most st0 f t) : Stage most st0 f t (fun _ => 0) (fun _ _ => 0) st0 :=
 ⟨fun _ _ _ _ => rfl, fun _ _ _ _ _ => rfl, fun s => by rw [h.cell]; simp [cap], fun i d => by rw [h.item]; simp [cap], h.ends⟩
def gj_ (f t i e : Nat) : Nat → Nat → Nat := fun i' d' => if 2 ≤ d' ∧ d' < (rhsOf rules i').length ∧ (i' < i ∨ (i' = i ∧ d' ≤ e)) then W T n rules i' d' f t else 0
def hi_ (f t i e : Nat) : Int → Nat := fun s => sumTo rules.length fun i' => if lhsOf rules i' = s ∧ 2 ≤ (rhsOf rules i').length ∧ (i' < i ∨ (i' = i ∧ (rhsOf rules i').length ≤ e)) then W T n rules i' (rhsOf rules i').length f t else 0
theorem cn_ {k : Nat} {g g' : Nat → Nat} (j v : Nat) (hj : j < k) (h : ∀ i, i < k → i ≠ j → g' i = g i) (hv : g' j = g j + v) : sumTo k g' = sumTo k g + v := by
 induction k with
 | zero => omega
 | succ k ih =>
  rw [sumTo_succ, sumTo_succ]
  by_cases e : j = k
  ·subst e
   rw [bd_ (fun i hi => h i (by omega) (by omega)), hv]
   omega
  rw [ih (by omega) (fun i hi he => h i (by omega) he), h k (by omega) (by omega)]
  omega
theorem gr_ (hm : 0 < most) (hT : Fwd T) (hne : ∀ r ∈ rules, r.2 ≠ []) {st0 : St} {f t : Nat} (hr : Ready T n rules most st0 f t) (i : Nat) (hi : i < rules.length) {st : St} (h : Stage most st0 f t (hi_ T n rules f t i 1) (gj_ T n rules f t i 1) st) :
  ∀ e, e ≤ (rhsOf rules i).length → Stage most st0 f t (hi_ T n rules f t i (max e 1)) (gj_ T n rules f t i (max e 1)) (st.long3 T rules most i f t e) := by
 intro e
 induction e with
 | zero => intro _; exact h
 | succ e ih =>
  intro he
  have h1 := ih (by omega)
  unfold St.long3
  by_cases h2 : 2 ≤ e + 1
  ·rw [if_pos h2]
   rw [show max e 1 = e by omega] at h1
   rw [show max (e + 1) 1 = e + 1 by omega]
   generalize st.long3 T rules most i f t e = st1 at *
   have hd1 : e + 1 - 1 = e := by omega
   rw [us_ T n rules most hm hT hne i (e + 1) f t h2 he hr.tn st1 (fun m hmt => ?_) (h1.ends i _ f).1 (h1.ends i _ f).2 (fun m hme => ?_) (fun x m hfm hmt => ?_)]
   ·refine Stage.congr most (h1.add rules most hm i (e + 1) (W T n rules i (e + 1) f t)) (fun s => ?_) (fun i' d' => ?_)
    ·by_cases hc : s = lhsOf rules i ∧ e + 1 = (rhsOf rules i).length
     ·rw [if_pos hc]
      unfold hi_
      refine (cn_ i _ hi (fun i' _ hne' => ?_) ?_).symm
      ·by_cases hq : lhsOf rules i' = s ∧ 2 ≤ (rhsOf rules i').length ∧ i' < i
       ·rw [if_pos ⟨hq.1, hq.2.1, .inl hq.2.2⟩, if_pos ⟨hq.1, hq.2.1, .inl hq.2.2⟩]
       rw [if_neg (fun e => hq ⟨e.1, e.2.1, e.2.2.resolve_right (fun k => hne' k.1)⟩), if_neg (fun e => hq ⟨e.1, e.2.1, e.2.2.resolve_right (fun k => hne' k.1)⟩)]
      rw [if_pos ⟨hc.1.symm, by omega, .inr ⟨rfl, by omega⟩⟩, if_neg (fun e => by have := e.2.2; omega), hc.2]
      omega
     rw [if_neg hc]
     unfold hi_
     refine bd_ fun i' _ => ?_
     by_cases hi' : i' = i
     ·subst hi'
      by_cases hq : lhsOf rules i' = s ∧ 2 ≤ (rhsOf rules i').length ∧ (rhsOf rules i').length ≤ e
      ·omega
      rw [if_neg (fun e => by have := e.2.2; omega), if_neg (fun k => hc ⟨k.1.symm, by have := k.2.2; omega⟩)]
     by_cases hq : lhsOf rules i' = s ∧ 2 ≤ (rhsOf rules i').length ∧ i' < i
     ·rw [if_pos ⟨hq.1, hq.2.1, .inl hq.2.2⟩, if_pos ⟨hq.1, hq.2.1, .inl hq.2.2⟩]
     rw [if_neg (fun e => hq ⟨e.1, e.2.1, e.2.2.resolve_right (fun k => hi' k.1)⟩), if_neg (fun e => hq ⟨e.1, e.2.1, e.2.2.resolve_right (fun k => hi' k.1)⟩)]
    unfold gj_
    by_cases hc : i' = i ∧ d' = e + 1 ∧ e + 1 ≠ (rhsOf rules i).length
    ·obtain ⟨rfl, rfl, hl⟩ := hc
     rw [if_pos ⟨rfl, rfl, hl⟩, if_neg (fun k => by have := k.2.2; omega), if_pos ⟨by omega, by omega, .inr ⟨rfl, Nat.le_refl _⟩⟩, Nat.zero_add]
    rw [if_neg hc]
    by_cases hq : 2 ≤ d' ∧ d' < (rhsOf rules i').length ∧ (i' < i ∨ (i' = i ∧ d' ≤ e))
    ·rw [if_pos hq, if_pos ⟨hq.1, hq.2.1, hq.2.2.imp id (fun k => ⟨k.1, by omega⟩)⟩]
    rw [if_neg hq, if_neg (fun k => hq ⟨k.1, k.2.1, k.2.2.imp id (fun k2 => ⟨k2.1, Classical.byContradiction fun h9 => hc ⟨k2.1, by omega, by have := k.2.1; rw [k2.1] at this; omega⟩⟩)⟩)]
   ·rw [hd1, h1.items i e f m (by omega)]
    exact hr.items i e m (by omega) (by omega) hmt
   ·rw [hd1] at hme
    have h9 := (h1.ends i e f).2 m |>.1 hme
    by_cases hmt : m = t
    ·have := hr.ft; have := hr.tn; omega
    rw [h1.items i e f m (by omega)] at h9
    exact hr.low i e m h9
   unfold St.of E
   split
   ·rfl
   rw [h1.cells x m t (by omega)]
   exact hr.cells x m hfm hmt
  rw [if_neg h2]
  have he0 : e = 0 := by omega
  subst he0
  exact h1
end
end Go.Proofs.YtjfbfhoipgldgaaGreat.Chart
namespace Go.Proofs.YtjfbfhoipgldgaaGreat.Chart
theorem cs_ {α : Type} (z : α) (g : α → Nat) (p : α → Bool) : ∀ l : List α, ((l.filter p).map g).sum = sumTo l.length fun i => if p (l.getD i z) = true then g (l.getD i z) else 0 := by
 have key : ∀ m : List α, ((m.reverse.filter p).map g).sum = sumTo m.reverse.length fun i => if p (m.reverse.getD i z) = true then g (m.reverse.getD i z) else 0 := by
  intro m
  induction m with
  | nil => rfl
  | cons x m ih =>
   rw [List.reverse_cons, List.filter_append, List.map_append, List.sum_append, ih, List.length_append, List.length_singleton, sumTo_succ]
   have h1 : (m.reverse ++ [x]).getD m.reverse.length z = x := by
    rw [List.getD_eq_getElem?_getD, List.getElem?_append_right (Nat.le_refl _), Nat.sub_self]; rfl
   rw [h1]
   congr 1
   ·refine bd_ fun i hi => ?_
    have h2 : (m.reverse ++ [x]).getD i z = m.reverse.getD i z := by
     rw [List.getD_eq_getElem?_getD, List.getD_eq_getElem?_getD, List.getElem?_append_left hi]
    rw [h2]
   by_cases hp : p x = true
   ·simp [hp]
   simp [hp]
 intro l
 simpa using key l.reverse
section
variable (T : Int → Nat → Nat → Nat) (n : Nat) (rules : List (Int × List Int)) (most : Nat)
def oneS (f t k : Nat) (s : Int) : Nat := sumTo k fun i => if lhsOf rules i = s ∧ (rhsOf rules i).length = 1 then E T (Num T n rules) ((rhsOf rules i).getD 0 0) f t else 0
theorem W_all (i p q : Nat) : W T n rules i (rhsOf rules i).length p q = ways T n (Num T n rules) (rhsOf rules i) p q := by
 unfold W; rw [List.take_length]
theorem W_one (i p q : Nat) (hp : p ≤ n) (hl : 1 ≤ (rhsOf rules i).length) : W T n rules i 1 p q = E T (Num T n rules) ((rhsOf rules i).getD 0 0) p q := by
 unfold W
 rw [sl_ _ 1 (Nat.le_refl _) hl, Nat.sub_self, List.take_zero, List.nil_append, if_ T n _ p q hp]
theorem ao_ (hT : Fwd T) (hne : ∀ r ∈ rules, r.2 ≠ []) (rank : Int → Nat) (hk : Ranked rules rank) (s : Int) (f t : Nat) (hf : f ≤ n) (ht : t ≤ n) :
  hi_ T n rules f t rules.length 1 s + oneS T n rules f t rules.length s = Num T n rules s f t := by
 rw [rt_ T n rules hT hne rank hk s f t ht]
 unfold sumR
 rw [cs_ (0, []) (fun r : Int × List Int => ways T n (Num T n rules) r.2 f t) (fun r => decide (r.1 = s)) rules]
 have hsum : ∀ (k : Nat) (g h : Nat → Nat), sumTo k g + sumTo k h = sumTo k fun i => g i + h i := by
  intro k g h
  induction k with
  | zero => rfl
  | succ k ih => rw [sumTo_succ, sumTo_succ, sumTo_succ, ← ih]; omega
 unfold hi_ oneS
 rw [hsum]
 refine bd_ fun i hi => ?_
 have hl : 1 ≤ (rhsOf rules i).length := by
  have h1 : rules.getD i (0, []) ∈ rules := by
   rw [List.getD_eq_getElem?_getD, List.getElem?_eq_getElem hi]; exact List.getElem_mem hi
  exact List.length_pos_iff.2 (hne _ h1)
 show (if lhsOf rules i = s ∧ 2 ≤ (rhsOf rules i).length ∧ (i < rules.length ∨ (i = rules.length ∧ (rhsOf rules i).length ≤ 1)) then W T n rules i (rhsOf rules i).length f t else 0) + (if lhsOf rules i = s ∧ (rhsOf rules i).length = 1 then E T (Num T n rules) ((rhsOf rules i).getD 0 0) f t else 0) = if decide (lhsOf rules i = s) = true then ways T n (Num T n rules) (rhsOf rules i) f t else 0
 by_cases hs : lhsOf rules i = s
 ·rw [if_pos (decide_eq_true hs)]
  by_cases h2 : 2 ≤ (rhsOf rules i).length
  ·rw [if_pos ⟨hs, h2, .inl hi⟩, if_neg (fun k => by have := k.2; omega), Nat.add_zero, W_all]
  have h1 : (rhsOf rules i).length = 1 := by omega
  rw [if_neg (fun k => h2 k.2.1), if_pos ⟨hs, h1⟩, Nat.zero_add, ← W_one T n rules i f t hf hl, ← h1, W_all]
 rw [if_neg (fun k => hs k.1), if_neg (fun k => hs k.1), if_neg (by simpa using hs)]
theorem gp_ (hm : 0 < most) (hT : Fwd T) (hne : ∀ r ∈ rules, r.2 ≠ []) {st0 : St} {f t : Nat} (hr : Ready T n rules most st0 f t) : ∀ i, i ≤ rules.length → Stage most st0 f t (hi_ T n rules f t i 1) (gj_ T n rules f t i 1) (st0.longer T rules most f t i) := by
 intro i
 induction i with
 | zero =>
  intro _
  refine Stage.congr most (Stage.start T n rules most hr) (fun s => ?_) (fun i' d' => ?_)
  ·unfold hi_
   rw [sumTo_zero fun i' _ => if_neg (fun k => by have := k.2; omega)]
  ·unfold gj_
   rw [if_neg (fun k => by have := k.2.2; omega)]
 | succ i ih =>
  intro hi
  have h1 := gr_ T n rules most hm hT hne hr i (by omega) (ih (by omega)) (rhsOf rules i).length (Nat.le_refl _)
  refine Stage.congr most h1 (fun s => ?_) (fun i' d' => ?_)
  ·unfold hi_
   refine bd_ fun i' _ => ?_
   by_cases hq : lhsOf rules i' = s ∧ 2 ≤ (rhsOf rules i').length ∧ i' ≤ i
   ·rw [if_pos ⟨hq.1, hq.2.1, (Nat.lt_or_ge i' i).elim .inl (fun g => .inr ⟨by omega, by rw [show i' = i by omega]; omega⟩)⟩, if_pos ⟨hq.1, hq.2.1, .inl (by omega)⟩]
   rw [if_neg (fun k => hq ⟨k.1, k.2.1, by have := k.2.2; omega⟩), if_neg (fun k => hq ⟨k.1, k.2.1, by have := k.2.2; omega⟩)]
  unfold gj_
  by_cases hq : 2 ≤ d' ∧ d' < (rhsOf rules i').length ∧ i' ≤ i
  ·rw [if_pos ⟨hq.1, hq.2.1, (Nat.lt_or_ge i' i).elim .inl (fun g => .inr ⟨by omega, by have := hq.2.1; rw [show i' = i by omega] at this; omega⟩)⟩, if_pos ⟨hq.1, hq.2.1, .inl (by omega)⟩]
  rw [if_neg (fun k => hq ⟨k.1, k.2.1, by have := k.2.2; omega⟩), if_neg (fun k => hq ⟨k.1, k.2.1, by have := k.2.2; omega⟩)]
theorem vr_ (hm : 0 < most) {st0 : St} {f t : Nat} {C : Int → Nat} {I : Nat → Nat → Nat} {st : St} (h : Stage most st0 f t C I st) (s : Int)
  (hu : ∀ i, i < rules.length → lhsOf rules i = s → (rhsOf rules i).length = 1 → 0 ≤ (rhsOf rules i).getD 0 0 → (rhsOf rules i).getD 0 0 ≠ s ∧ cap most (C ((rhsOf rules i).getD 0 0)) = cap most (Num T n rules ((rhsOf rules i).getD 0 0) f t)) :
  ∀ i, i ≤ rules.length → Stage most st0 f t (fun s' => if s' = s then C s' + oneS T n rules f t i s else C s') I (st.alone T rules most s f t i) := by
 intro i
 induction i with
 | zero =>
  intro _
  refine Stage.congr most h (fun s' => ?_) (fun _ _ => rfl)
  unfold oneS
  split <;> rfl
 | succ i ih =>
  intro hi
  have h1 := ih (by omega)
  unfold St.alone
  generalize st.alone T rules most s f t i = st1 at *
  by_cases hc : lhsOf rules i = s ∧ (rhsOf rules i).length = 1
  ·simp only [if_pos hc]
   have hv : cap most (st1.of T most ((rhsOf rules i).getD 0 0) f t) = cap most (E T (Num T n rules) ((rhsOf rules i).getD 0 0) f t) := by
    unfold St.of E
    split
    ·rw [fl_]
    have hx := hu i (by omega) hc.1 hc.2 (by omega)
    rw [h1.cell, if_neg hx.1, fl_, hx.2]
   rw [zj_ rules most hm st1 i 1 f t hv]
   refine Stage.congr most (h1.add rules most hm i 1 _) (fun s' => ?_) (fun i' d' => ?_)
   ·unfold oneS
    rw [sumTo_succ, if_pos hc]
    by_cases hs : s' = s
    ·rw [if_pos ⟨by rw [hs, hc.1], hc.2.symm⟩, if_pos hs, if_pos hs]
     omega
    rw [if_neg (fun k => hs (by rw [k.1, hc.1])), if_neg hs, if_neg hs]
   rw [if_neg (fun k => k.2.2 hc.2.symm)]
  simp only [if_neg hc]
  refine Stage.congr most h1 (fun s' => ?_) (fun _ _ => rfl)
  unfold oneS
  rw [sumTo_succ, if_neg hc, Nat.add_zero]
theorem ur_ (hm : 0 < most) {st0 : St} {f t : Nat} {C : Int → Nat} {I : Nat → Nat → Nat} {st : St} (h : Stage most st0 f t C I st)
  (hu : ∀ i, i < rules.length → 0 ≤ (rhsOf rules i).getD 0 0 → cap most (C ((rhsOf rules i).getD 0 0)) = cap most (Num T n rules ((rhsOf rules i).getD 0 0) f t)) :
  ∀ i, i ≤ rules.length → Stage most st0 f t C (fun i' d' => if i' < i ∧ d' = 1 ∧ 1 < (rhsOf rules i').length then I i' d' + E T (Num T n rules) ((rhsOf rules i').getD 0 0) f t else I i' d') (st.begun T rules most f t i) := by
 intro i
 induction i with
 | zero => intro _; exact Stage.congr most h (fun _ => rfl) (fun i' d' => by rw [if_neg (fun k => by omega)])
 | succ i ih =>
  intro hi
  have h1 := ih (by omega)
  unfold St.begun
  generalize st.begun T rules most f t i = st1 at *
  by_cases hc : 1 < (rhsOf rules i).length
  ·simp only [if_pos hc]
   have hv : cap most (st1.of T most ((rhsOf rules i).getD 0 0) f t) = cap most (E T (Num T n rules) ((rhsOf rules i).getD 0 0) f t) := by
    unfold St.of E
    split
    ·rw [fl_]
    rw [h1.cell, fl_, hu i (by omega) (by omega)]
   rw [zj_ rules most hm st1 i 1 f t hv]
   refine Stage.congr most (h1.add rules most hm i 1 _) (fun s' => ?_) (fun i' d' => ?_)
   ·rw [if_neg (fun k => by omega)]
   by_cases he : i' = i ∧ d' = 1
   ·obtain ⟨rfl, rfl⟩ := he
    rw [if_pos ⟨rfl, rfl, by omega⟩, if_neg (fun k => by omega), if_pos ⟨by omega, rfl, hc⟩]
   rw [if_neg (fun k => he ⟨k.1, k.2.1⟩)]
   by_cases hq : i' < i ∧ d' = 1 ∧ 1 < (rhsOf rules i').length
   ·rw [if_pos hq, if_pos ⟨by omega, hq.2⟩]
   rw [if_neg hq, if_neg (fun k => hq ⟨by omega, k.2⟩)]
  simp only [if_neg hc]
  refine Stage.congr most h1 (fun _ => rfl) (fun i' d' => ?_)
  by_cases hq : i' < i ∧ d' = 1 ∧ 1 < (rhsOf rules i').length
  ·rw [if_pos hq, if_pos ⟨by omega, hq.2⟩]
  rw [if_neg hq, if_neg (fun k => hq ⟨(Nat.lt_or_ge i' i).elim id (fun g => absurd (by have := k.2.2; rw [show i' = i by omega] at this; exact this) hc), k.2⟩)]
end
end Go.Proofs.YtjfbfhoipgldgaaGreat.Chart
namespace Go.Proofs.YtjfbfhoipgldgaaGreat.Chart
section
variable (T : Int → Nat → Nat → Nat) (n : Nat) (rules : List (Int × List Int)) (most : Nat)
structure OrderOk (order : List Int) : Prop where
 nodup : order.Nodup
 lhs : ∀ i, i < rules.length → lhsOf rules i ∈ order
 before : ∀ pre s post, order = pre ++ s :: post → ∀ i, i < rules.length → lhsOf rules i = s → (rhsOf rules i).length = 1 → 0 ≤ (rhsOf rules i).getD 0 0 → (rhsOf rules i).getD 0 0 ∈ pre
theorem mv_ (f t : Nat) (s : Int) (h : ∀ i, i < rules.length → lhsOf rules i ≠ s) : oneS T n rules f t rules.length s = 0 := by
 unfold oneS
 exact sumTo_zero fun i hi => if_neg fun k => h i hi k.1
theorem yq_ (hm : 0 < most) (hT : Fwd T) (hne : ∀ r ∈ rules, r.2 ≠ []) (rank : Int → Nat) (hk : Ranked rules rank) {st0 : St} {f t : Nat} (hr : Ready T n rules most st0 f t) (order : List Int) (ho : OrderOk rules order) :
  ∀ (pre post : List Int), order = pre ++ post → Stage most st0 f t (fun s => hi_ T n rules f t rules.length 1 s + if s ∈ pre then oneS T n rules f t rules.length s else 0) (gj_ T n rules f t rules.length 1) (pre.foldl (fun st s => st.alone T rules most s f t rules.length) (st0.longer T rules most f t rules.length)) := by
 have hfn : f ≤ n := by have := hr.ft; have := hr.tn; omega
 refine bh_ ?_ ?_
 ·intro post _
  refine Stage.congr most (gp_ T n rules most hm hT hne hr rules.length (Nat.le_refl _)) (fun s => ?_) (fun _ _ => rfl)
  rw [if_neg (by simp), Nat.add_zero]
 intro pre s ih post hpo
 have hpo' : order = pre ++ s :: post := by rw [hpo, List.append_assoc]; rfl
 have h1 := ih (s :: post) hpo'
 rw [List.foldl_append]
 have hnd := ho.nodup
 rw [hpo'] at hnd
 have hs : s ∉ pre := fun hm => (List.nodup_append.1 hnd).2.2 s hm s List.mem_cons_self rfl
 have h2 := vr_ T n rules most hm h1 s (fun i hi hl h1' h0 => by
  have hx := ho.before pre s post hpo' i hi hl h1' h0
  refine ⟨fun e => hs (e ▸ hx), ?_⟩
  rw [if_pos hx, ao_ T n rules hT hne rank hk _ f t hfn hr.tn]) rules.length (Nat.le_refl _)
 refine Stage.congr most h2 (fun s' => ?_) (fun _ _ => rfl)
 by_cases e : s' = s
 ·subst e
  rw [if_pos rfl, if_neg hs, if_pos (List.mem_append.2 (.inr (List.mem_singleton.2 rfl))), Nat.add_zero]
 rw [if_neg e]
 by_cases hq : s' ∈ pre
 ·rw [if_pos hq, if_pos (List.mem_append.2 (.inl hq))]
 rw [if_neg hq, if_neg (fun k => (List.mem_append.1 k).elim hq (fun k => e (List.mem_singleton.1 k)))]
def ig_ (i d p q : Nat) : Nat := if 1 ≤ d ∧ d < (rhsOf rules i).length then W T n rules i d p q else 0
theorem fs_ (hm : 0 < most) (hT : Fwd T) (hne : ∀ r ∈ rules, r.2 ≠ []) (rank : Int → Nat) (hk : Ranked rules rank) {st0 : St} {f t : Nat} (hr : Ready T n rules most st0 f t) (order : List Int) (ho : OrderOk rules order) :
  Stage most st0 f t (fun s => Num T n rules s f t) (fun i d => ig_ T n rules i d f t) (st0.span T rules most order f t) := by
 have hfn : f ≤ n := by have := hr.ft; have := hr.tn; omega
 have h1 := yq_ T n rules most hm hT hne rank hk hr order ho order [] (by simp)
 have h2 : Stage most st0 f t (fun s => Num T n rules s f t) (gj_ T n rules f t rules.length 1) (order.foldl (fun st s => st.alone T rules most s f t rules.length) (st0.longer T rules most f t rules.length)) := by
  refine Stage.congr most h1 (fun s => ?_) (fun _ _ => rfl)
  rw [← ao_ T n rules hT hne rank hk s f t hfn hr.tn]
  by_cases hs : s ∈ order
  ·rw [if_pos hs]
  rw [if_neg hs, mv_ T n rules f t s (fun i hi e => hs (e ▸ ho.lhs i hi))]
 have h3 := ur_ T n rules most hm h2 (fun _ _ _ => rfl) rules.length (Nat.le_refl _)
 refine Stage.congr most h3 (fun _ => rfl) (fun i d => ?_)
 unfold ig_ gj_
 by_cases hi : i < rules.length
 ·by_cases hd : d = 1 ∧ 1 < (rhsOf rules i).length
  ·rw [if_pos ⟨hi, hd⟩, if_neg (fun k => by have := k.1; omega), if_pos ⟨by omega, by omega⟩, Nat.zero_add, hd.1, W_one T n rules i f t hfn (by omega)]
  rw [if_neg (fun k => hd k.2)]
  by_cases h2 : 2 ≤ d ∧ d < (rhsOf rules i).length
  ·rw [if_pos ⟨h2.1, h2.2, .inl hi⟩, if_pos ⟨by omega, h2.2⟩]
  rw [if_neg (fun k => h2 ⟨k.1, k.2.1⟩), if_neg (fun k => by omega)]
 have hl : (rhsOf rules i).length = 0 := by
  unfold rhsOf
  rw [List.getD_eq_getElem?_getD, List.getElem?_eq_none (by omega)]
  rfl
 rw [if_neg (fun k => hi k.1), if_neg (fun k => by have := k.2.1; omega), if_neg (fun k => by have := k.2; omega)]
structure Inv (D : Nat → Nat → Prop) (st : St) : Prop where
 c1 : ∀ s p q, D p q → st.cells s p q = cap most (Num T n rules s p q)
 c0 : ∀ s p q, ¬ D p q → st.cells s p q = 0
 i1 : ∀ i d p q, D p q → st.items i d p q = cap most (ig_ T n rules i d p q)
 i0 : ∀ i d p q, ¬ D p q → st.items i d p q = 0
 ends : ∀ i d p, (st.ends i d p).Nodup ∧ ∀ q, q ∈ st.ends i d p ↔ st.items i d p q ≠ 0
theorem Inv.span (hm : 0 < most) (hT : Fwd T) (hne : ∀ r ∈ rules, r.2 ≠ []) (rank : Int → Nat) (hk : Ranked rules rank) (order : List Int) (ho : OrderOk rules order) {D : Nat → Nat → Prop} {st : St} (h : Inv T n rules most D st) {f t : Nat} (hft : f < t) (htn : t ≤ n) (hD : ¬ D f t)
  (hin : ∀ m, f < m → m < t → D f m ∧ D m t) (hlow : ∀ i d m, ig_ T n rules i d f m ≠ 0 → m ≤ n) (hback : ∀ m, m ≤ f → D f m) : Inv T n rules most (fun p q => D p q ∨ (p = f ∧ q = t)) (st.span T rules most order f t) := by
 have hW0 : ∀ i d p q, ¬ p < q → ig_ T n rules i d p q = 0 := by
  intro i d p q hpq
  unfold ig_
  split
  ·rename_i hd
   refine Classical.byContradiction fun e => ?_
   have h1 := ways_len T n hT (Num_fwd T n rules hT hne) p _ q e
   rw [List.length_take] at h1
   omega
  rfl
 have hr : Ready T n rules most st f t := by
  refine ⟨hft, htn, fun s => h.c0 s f t hD, fun i d => h.i0 i d f t hD, fun s m h1 h2 => h.c1 s m t (hin m h1 h2).2, fun i d m h1 h2 h3 => ?_, fun i d m hz => ?_, h.ends⟩
  ·by_cases hmf : f < m
   ·rw [h.i1 i d f m (hin m hmf h3).1]
    unfold ig_
    rw [if_pos ⟨h1, h2⟩]
   rw [h.i1 i d f m (hback m (by omega))]
   unfold ig_
   rw [if_pos ⟨h1, h2⟩]
  have hDm : D f m := Classical.byContradiction fun e => hz (h.i0 i d f m e)
  rw [h.i1 i d f m hDm] at hz
  have hw : ig_ T n rules i d f m ≠ 0 := fun e => hz (by rw [e]; simp [cap])
  exact ⟨Classical.byContradiction fun e => hw (hW0 i d f m e), hlow i d m hw⟩
 have hs := fs_ T n rules most hm hT hne rank hk hr order ho
 refine ⟨fun s p q hd => ?_, fun s p q hd => ?_, fun i d p q hd => ?_, fun i d p q hd => ?_, hs.ends⟩
 ·by_cases e : p = f ∧ q = t
  ·rw [e.1, e.2]; exact hs.cell s
  rw [hs.cells s p q e]; exact h.c1 s p q (hd.resolve_right e)
 ·rw [hs.cells s p q (fun e => hd (.inr e))]; exact h.c0 s p q (fun e => hd (.inl e))
 ·by_cases e : p = f ∧ q = t
  ·rw [e.1, e.2]; exact hs.item i d
  rw [hs.items i d p q e]; exact h.i1 i d p q (hd.resolve_right e)
 rw [hs.items i d p q (fun e => hd (.inr e))]; exact h.i0 i d p q (fun e => hd (.inl e))
end
end Go.Proofs.YtjfbfhoipgldgaaGreat.Chart
namespace Go.Proofs.YtjfbfhoipgldgaaGreat.Chart
section
variable (T : Int → Nat → Nat → Nat) (n : Nat) (rules : List (Int × List Int)) (most : Nat)
theorem dk_ {F : Int → Nat → Nat → Nat} {froms tos : List Nat} (hE : ∀ x p q, E T F x p q ≠ 0 → p ∈ froms ∧ q ∈ tos) (p : Nat) : ∀ (l : List Int) (q : Nat), l ≠ [] → ways T n F l p q ≠ 0 → p ∈ froms ∧ q ∈ tos := by
 refine bh_ (fun q h => absurd rfl h) ?_
 intro l x ih q _ h
 rw [ways_snoc] at h
 obtain ⟨m, hm, hf⟩ := qn_ h
 have h1 : ways T n F l p m ≠ 0 := fun e => hf (by rw [e, Nat.zero_mul])
 have h2 : E T F x m q ≠ 0 := fun e => hf (by rw [e, Nat.mul_zero])
 have h3 := hE x m q h2
 by_cases hl : l = []
 ·subst hl
  rw [ways_nil] at h1
  by_cases e : m = p
  ·exact ⟨e ▸ h3.1, h3.2⟩
  exact absurd (if_neg e) h1
 exact ⟨(ih m hl h1).1, h3.2⟩
theorem oo_ {froms tos : List Nat} (hT : ∀ x p q, T x p q ≠ 0 → p ∈ froms ∧ q ∈ tos) (hne : ∀ r ∈ rules, r.2 ≠ []) : ∀ k s p q, NF T n rules k s p q ≠ 0 → p ∈ froms ∧ q ∈ tos
 | 0, s, p, q, h => absurd rfl h
 | k + 1, s, p, q, h => by
  have ih := oo_ hT hne k
  refine Classical.byContradiction fun hno => h ?_
  show sumR T n rules (NF T n rules k) s p q = 0
  unfold sumR
  refine sum_map_zero fun r hr => Classical.byContradiction fun e => hno ?_
  refine dk_ T n (fun x p q hx => ?_) p r.2 q (hne r (List.mem_filter.1 hr).1) e
  unfold E at hx
  split at hx
  ·exact hT x p q hx
  exact ih x p q hx
theorem Num_places {froms tos : List Nat} (hT : ∀ x p q, T x p q ≠ 0 → p ∈ froms ∧ q ∈ tos) (hne : ∀ r ∈ rules, r.2 ≠ []) (s : Int) (p q : Nat) (h : Num T n rules s p q ≠ 0) : p ∈ froms ∧ q ∈ tos := oo_ T n rules hT hne _ s p q h
theorem jj_ {froms tos : List Nat} (hT : ∀ x p q, T x p q ≠ 0 → p ∈ froms ∧ q ∈ tos) (hne : ∀ r ∈ rules, r.2 ≠ []) (i d p q : Nat) (h : ig_ T n rules i d p q ≠ 0) : p ∈ froms ∧ q ∈ tos := by
 unfold ig_ at h
 split at h
 ·rename_i hd
  refine dk_ T n (fun x p q hx => ?_) p _ q (fun e => ?_) h
  ·unfold E at hx
   split at hx
   ·exact hT x p q hx
   exact Num_places T n rules hT hne x p q hx
  have := congrArg List.length e
  rw [List.length_take, List.length_nil] at this
  omega
 exact absurd rfl h
theorem Inv.congr {D D' : Nat → Nat → Prop} {st : St} (h : Inv T n rules most D st) (hd : ∀ p q, D p q ↔ D' p q) : Inv T n rules most D' st :=
 ⟨fun s p q e => h.c1 s p q ((hd p q).2 e), fun s p q e => h.c0 s p q (fun k => e ((hd p q).1 k)), fun i d p q e => h.i1 i d p q ((hd p q).2 e), fun i d p q e => h.i0 i d p q (fun k => e ((hd p q).1 k)), h.ends⟩
def Done (froms tos tp : List Nat) (t : Nat) (dn : List Nat) (p q : Nat) : Prop := ¬ (p ∈ froms ∧ q ∈ tos ∧ p < q) ∨ q ∈ tp ∨ (q = t ∧ p ∈ dn)
theorem row_inv (hm : 0 < most) (hT : Fwd T) (hne : ∀ r ∈ rules, r.2 ≠ []) (rank : Int → Nat) (hk : Ranked rules rank) (order : List Int) (ho : OrderOk rules order) {froms tos : List Nat} (hp : ∀ x p q, T x p q ≠ 0 → p ∈ froms ∧ q ∈ tos) (hfs : froms.Pairwise (· < ·)) (htn : ∀ q ∈ tos, q ≤ n)
  {tp : List Nat} {t : Nat} (ht : t ∈ tos) (htp : ∀ q ∈ tos, q < t → q ∈ tp) (htp2 : t ∉ tp) : ∀ (fs dn : List Nat) (st : St), froms.reverse = dn ++ fs → Inv T n rules most (Done froms tos tp t dn) st →
  Inv T n rules most (Done froms tos tp t (dn ++ fs)) (st.row T rules most order t fs) := by
 intro fs
 induction fs with
 | nil => intro dn st _ h; rw [List.append_nil]; exact h
 | cons f fs ih =>
  intro dn st he h
  have hrev : froms.reverse.Pairwise (fun a b => b < a) := List.pairwise_reverse.2 hfs
  rw [he] at hrev
  have hff : f ∈ froms := List.mem_reverse.1 (by rw [he]; simp)
  have hsplit := List.pairwise_append.1 hrev
  have hfd : f ∉ dn := fun k => Nat.lt_irrefl _ (hsplit.2.2 f k f List.mem_cons_self)
  have hgt : ∀ m ∈ froms, f < m → m ∈ dn := by
   intro m hm' hlt
   have h1 : m ∈ dn ++ f :: fs := by rw [← he]; exact List.mem_reverse.2 hm'
   rcases List.mem_append.1 h1 with h1 | h1
   ·exact h1
   rcases List.mem_cons.1 h1 with rfl | h1
   ·exact absurd hlt (Nat.lt_irrefl _)
   have := (List.pairwise_cons.1 hsplit.2.1).1 m h1
   omega
  have he' : froms.reverse = (dn ++ [f]) ++ fs := by rw [he, List.append_assoc]; rfl
  have key : Inv T n rules most (Done froms tos tp t (dn ++ [f])) (if f < t then st.span T rules most order f t else st) := by
   by_cases hft : f < t
   ·rw [if_pos hft]
    refine Inv.congr T n rules most (h.span T n rules most hm hT hne rank hk order ho hft (htn t ht) ?_ ?_ ?_ ?_) (fun p q => ?_)
    ·rintro (k | k | k)
     ·exact k ⟨hff, ht, hft⟩
     ·exact htp2 k
     exact hfd k.2
    ·intro m h1 h2
     constructor
     ·by_cases hmt : m ∈ tos
      ·exact .inr (.inl (htp m hmt h2))
      exact .inl fun k => hmt k.2.1
     by_cases hmf : m ∈ froms
     ·exact .inr (.inr ⟨rfl, hgt m hmf h1⟩)
     exact .inl fun k => hmf k.1
    ·intro i d m hw
     exact htn m (jj_ T n rules hp hne i d f m hw).2
    ·intro m hmf
     exact .inl fun k => by have := k.2.2; omega
    unfold Done
    rw [List.mem_append, List.mem_singleton]
    constructor
    ·rintro ((k | k | k) | k)
     ·exact .inl k
     ·exact .inr (.inl k)
     ·exact .inr (.inr ⟨k.1, .inl k.2⟩)
     exact .inr (.inr ⟨k.2, .inr k.1⟩)
    rintro (k | k | ⟨k1, k2 | k2⟩)
    ·exact .inl (.inl k)
    ·exact .inl (.inr (.inl k))
    ·exact .inl (.inr (.inr ⟨k1, k2⟩))
    exact .inr ⟨k2, k1⟩
   rw [if_neg hft]
   refine Inv.congr T n rules most h (fun p q => ?_)
   unfold Done
   rw [List.mem_append, List.mem_singleton]
   constructor
   ·rintro (k | k | k)
    ·exact .inl k
    ·exact .inr (.inl k)
    exact .inr (.inr ⟨k.1, .inl k.2⟩)
   rintro (k | k | ⟨k1, k2 | k2⟩)
   ·exact .inl k
   ·exact .inr (.inl k)
   ·exact .inr (.inr ⟨k1, k2⟩)
   exact .inl fun j => hft (by rw [← k1, ← k2]; exact j.2.2)
  have h2 := ih (dn ++ [f]) _ he' key
  rw [List.append_assoc] at h2
  exact h2
theorem fill_inv (hm : 0 < most) (hT : Fwd T) (hne : ∀ r ∈ rules, r.2 ≠ []) (rank : Int → Nat) (hk : Ranked rules rank) (order : List Int) (ho : OrderOk rules order) {froms tos : List Nat} (hp : ∀ x p q, T x p q ≠ 0 → p ∈ froms ∧ q ∈ tos) (hfs : froms.Pairwise (· < ·)) (hts : tos.Pairwise (· < ·)) (htn : ∀ q ∈ tos, q ≤ n) :
  ∀ (rest tp : List Nat) (st : St), tos = tp ++ rest → Inv T n rules most (Done froms tos tp 0 []) st → Inv T n rules most (Done froms tos tos 0 []) (rest.foldl (fun st t => st.row T rules most order t froms.reverse) st) := by
 intro rest
 induction rest with
 | nil => intro tp st he h; rw [List.append_nil] at he; rw [he] at h ⊢; exact h
 | cons t rest ih =>
  intro tp st he h
  have ht : t ∈ tos := by rw [he]; simp
  have hts' := hts
  rw [he] at hts'
  have hsplit := List.pairwise_append.1 hts'
  have h2 := row_inv T n rules most hm hT hne rank hk order ho hp hfs htn (tp := tp) ht (fun q hq hlt => by
   rw [he] at hq
   rcases List.mem_append.1 hq with hq | hq
   ·exact hq
   rcases List.mem_cons.1 hq with rfl | hq
   ·exact absurd hlt (Nat.lt_irrefl _)
   have := (List.pairwise_cons.1 hsplit.2.1).1 q hq
   omega) (fun k => Nat.lt_irrefl _ (hsplit.2.2 t k t List.mem_cons_self)) froms.reverse [] st (by rfl) (Inv.congr T n rules most h (fun p q => by unfold Done; simp))
  rw [List.foldl_cons]
  refine ih (tp ++ [t]) _ (by rw [he, List.append_assoc]; rfl) (Inv.congr T n rules most h2 (fun p q => ?_))
  unfold Done
  rw [List.nil_append, List.mem_append, List.mem_singleton]
  constructor
  ·rintro (k | k | k)
   ·exact .inl k
   ·exact .inr (.inl (.inl k))
   exact .inr (.inl (.inr k.1))
  rintro (k | (k | k) | k)
  ·exact .inl k
  ·exact .inr (.inl k)
  ·by_cases hpf : p ∈ froms
   ·exact .inr (.inr ⟨k, List.mem_reverse.2 hpf⟩)
   exact .inl fun j => hpf j.1
  exact absurd k.2 (by simp)
theorem fill_spec (hm : 0 < most) (hT : Fwd T) (hne : ∀ r ∈ rules, r.2 ≠ []) (rank : Int → Nat) (hk : Ranked rules rank) (order : List Int) (ho : OrderOk rules order) {froms tos : List Nat} (hp : ∀ x p q, T x p q ≠ 0 → p ∈ froms ∧ q ∈ tos) (hfs : froms.Pairwise (· < ·)) (hts : tos.Pairwise (· < ·)) (htn : ∀ q ∈ tos, q ≤ n) (s : Int) (p q : Nat) :
  (St.fill T rules most order froms tos).cells s p q = cap most (Num T n rules s p q) := by
 have h0 : Inv T n rules most (Done froms tos [] 0 []) St.none := by
  refine ⟨fun s p q hd => ?_, fun _ _ _ _ => rfl, fun i d p q hd => ?_, fun _ _ _ _ _ => rfl, fun i d p => ⟨List.nodup_nil, fun q => by simp [St.none]⟩⟩
  ·have h1 : Num T n rules s p q = 0 := Classical.byContradiction fun e => by
    have h2 := Num_places T n rules hp hne s p q e
    have h3 : p < q := Classical.byContradiction fun k => e (Num_fwd T n rules hT hne s p q k)
    rcases hd with k | k | k
    ·exact k ⟨h2.1, h2.2, h3⟩
    ·exact absurd k (by simp)
    exact absurd k.2 (by simp)
   rw [h1]; rfl
  have h1 : ig_ T n rules i d p q = 0 := Classical.byContradiction fun e => by
   have h2 := jj_ T n rules hp hne i d p q e
   have h3 : p < q := by
    unfold ig_ at e
    split at e
    ·rename_i hd'
     have h4 := ways_len T n hT (Num_fwd T n rules hT hne) p _ q e
     rw [List.length_take] at h4
     omega
    exact absurd rfl e
   rcases hd with k | k | k
   ·exact k ⟨h2.1, h2.2, h3⟩
   ·exact absurd k (by simp)
   exact absurd k.2 (by simp)
  rw [h1]; rfl
 have h := fill_inv T n rules most hm hT hne rank hk order ho hp hfs hts htn tos [] St.none rfl h0
 refine h.c1 s p q ?_
 by_cases hq : q ∈ tos
 ·exact .inr (.inl hq)
 exact .inl fun k => hq k.2.1
end
end Go.Proofs.YtjfbfhoipgldgaaGreat.Chart
namespace Go.Proofs.YtjfbfhoipgldgaaGreat.Chart
theorem ui_ (a b : Nat) (f : Nat → Nat) : sumTo (a + b) f = sumTo a f + sumTo b (fun j => f (a + j)) := by
 induction b with
 | zero => rfl
 | succ b ih => rw [← Nat.add_assoc, sumTo_succ, ih, sumTo_succ]; omega
theorem po_ (k p q : Nat) (f : Nat → Nat) (hpq : p ≤ q) (hq : q ≤ k) (h1 : ∀ m, m < p → f m = 0) (h2 : ∀ m, q ≤ m → m < k → f m = 0) : sumTo k f = sumTo (q - p) fun j => f (p + j) := by
 obtain ⟨d, rfl⟩ : ∃ d, q = p + d := ⟨q - p, by omega⟩
 obtain ⟨e, rfl⟩ : ∃ e, k = p + d + e := ⟨k - (p + d), by omega⟩
 rw [ui_, ui_, sumTo_zero h1, Nat.zero_add, Nat.add_sub_cancel_left]
 rw [sumTo_zero (n := e) (fun i hi => h2 _ (by omega) (by omega)), Nat.add_zero]
section
variable (T : Int → Nat → Nat → Nat) (n : Nat)
def catF (d : Nat) : Nat := [0, 1, 1, 2, 5, 14, 42, 132, 429, 1430, 4862].getD d 0
theorem cat_conv : ∀ d : Fin 11, 2 ≤ d.val → sumTo d.val (fun j => catF j * catF (d.val - j)) = catF d.val := by decide
theorem brackets (rules : List (Int × List Int)) (hr : rules = [(0, [0, 0]), (0, [-1])] ∨ rules = [(0, [-1]), (0, [0, 0])]) (hT : Fwd T) (h1 : ∀ p q, p < q → q ≤ n → T (-1) p q = if q = p + 1 then 1 else 0) (hn : n ≤ 10) :
  ∀ (d p q : Nat), q - p = d → p < q → q ≤ n → Num T n rules 0 p q = catF d := by
 have hne : ∀ r ∈ rules, r.2 ≠ [] := by rcases hr with rfl | rfl <;> simp
 have hk : Ranked rules (fun _ => 0) := ⟨fun _ => by simp, fun r h x hx e => by
  rcases hr with rfl | rfl <;> simp at h <;> rcases h with rfl | rfl <;> simp at e <;> omega⟩
 have hF := Num_fwd T n rules hT hne
 have heq : ∀ p q, p < q → q ≤ n → Num T n rules 0 p q = sumTo (n + 1) (fun m => Num T n rules 0 p m * Num T n rules 0 m q) + T (-1) p q := by
  intro p q hpq hq
  rw [rt_ T n rules hT hne _ hk 0 p q hq]
  have w1 : ways T n (Num T n rules) [-1] p q = T (-1) p q := by rw [if_ T n _ p q (by omega)]; rfl
  have w2 : ways T n (Num T n rules) [0, 0] p q = sumTo (n + 1) (fun m => Num T n rules 0 p m * Num T n rules 0 m q) := by
   rw [show ([0, 0] : List Int) = [0] ++ [0] from rfl, ways_snoc]
   refine bd_ fun m _ => ?_
   rw [if_ T n _ p m (by omega)]
   rfl
  rcases hr with h | h
  ·have : sumR T n rules (Num T n rules) 0 p q = ways T n (Num T n rules) [0, 0] p q + (ways T n (Num T n rules) [-1] p q + 0) := by
    subst h; rfl
   rw [this, w1, w2]; rfl
  have : sumR T n rules (Num T n rules) 0 p q = ways T n (Num T n rules) [-1] p q + (ways T n (Num T n rules) [0, 0] p q + 0) := by
   subst h; rfl
  rw [this, w1, w2]; omega
 intro d
 induction d using Nat.strongRecOn with
 | ind d ih =>
  intro p q hd hpq hq
  rw [heq p q hpq hq, h1 p q hpq hq]
  rw [po_ (n + 1) p q _ (by omega) (by omega) (fun m hm => by rw [hF 0 p m (by omega), Nat.zero_mul]) (fun m h2 _ => by rw [hF 0 m q (by omega), Nat.mul_zero]), hd]
  by_cases h1d : d = 1
  ·subst h1d
   rw [if_pos (by omega)]
   have : sumTo 1 (fun j => Num T n rules 0 p (p + j) * Num T n rules 0 (p + j) q) = 0 := sumTo_zero fun i hi => by
    rw [show i = 0 by omega, Nat.add_zero, hF 0 p p (Nat.lt_irrefl _), Nat.zero_mul]
   rw [this]; rfl
  rw [if_neg (by omega), Nat.add_zero]
  rw [← cat_conv ⟨d, by omega⟩ (by show 2 ≤ d; omega)]
  refine bd_ fun j hj => ?_
  by_cases h0 : j = 0
  ·subst h0
   rw [Nat.add_zero, hF 0 p p (Nat.lt_irrefl _)]
   simp [catF]
  rw [ih j (by omega) p (p + j) (by omega) (by omega) (by omega), ih (d - j) (by omega) (p + j) q (by omega) (by omega) hq]
theorem brackets_other (rules : List (Int × List Int)) (hr : ∀ r ∈ rules, r.1 = 0) (hne : ∀ r ∈ rules, r.2 ≠ []) (s : Int) (hs : s ≠ 0) (p q : Nat) : Num T n rules s p q = 0 := by
 have : ∀ k, NF T n rules k s p q = 0 := by
  intro k
  cases k with
  | zero => rfl
  | succ k =>
   show sumR T n rules (NF T n rules k) s p q = 0
   unfold sumR
   refine sum_map_zero fun r h => ?_
   obtain ⟨h1, h2⟩ := List.mem_filter.1 h
   exact absurd ((of_decide_eq_true h2).symm.trans (hr r h1)) hs
 exact this _
end
end Go.Proofs.YtjfbfhoipgldgaaGreat.Chart
end
section
set_option linter.unusedVariables false
namespace Go.Proofs.YtjfbfhoipgldgaaGreat.Chart
section
variable (T : Int → Nat → Nat → Nat) (n : Nat) (rules : List (Int × List Int))
open Classical in
noncomputable def Fcur (Fil : Int → Nat → Nat → Prop) : Int → Nat → Nat → Nat := fun s p q => if Fil s p q then Num T n rules s p q else 0
theorem Fcur_fwd (hT : Fwd T) (hr : ∀ r ∈ rules, r.2 ≠ []) (Fil : Int → Nat → Nat → Prop) : Fwd (Fcur T n rules Fil) := by
 intro x p q h
 unfold Fcur
 split
 ·exact Num_fwd T n rules hT hr x p q h
 rfl
theorem Fcur_on (Fil : Int → Nat → Nat → Prop) {s : Int} {p q : Nat} (h : Fil s p q) : Fcur T n rules Fil s p q = Num T n rules s p q := if_pos h
theorem ms_ (hT : Fwd T) (hr : ∀ r ∈ rules, r.2 ≠ []) (Fil : Int → Nat → Nat → Prop) (r : Int × List Int) (hrm : r ∈ rules) (p z : Nat) (hp : p ≤ n)
  (hs : ∀ y a b, 0 ≤ y → p ≤ a → a ≤ n → a < b → b ≤ z → b - a < z - p → Fil y a b) (hu : ∀ x, 0 ≤ x → r.2 = [x] → Fil x p z) : ways T n (Fcur T n rules Fil) r.2 p z = ways T n (Num T n rules) r.2 p z := by
 rcases ul_ r.2 with h0 | ⟨x, h1⟩ | ⟨l, x, h2, h3⟩
 ·exact absurd h0 (hr r hrm)
 ·rw [h1, if_ T n x p z hp, if_ T n x p z hp]
  unfold E
  split
  ·rfl
  exact Fcur_on T n rules Fil (hu x (by omega) h1)
 rw [h2]
 exact ek_ T n hT (Fcur_fwd T n rules hT hr Fil) (Num_fwd T n rules hT hr) p z l x h3 fun y a b h0 h1 ha h4 h5 h6 => Fcur_on T n rules Fil (hs y a b h0 h1 ha h4 h5 h6)
noncomputable def sumK (F : Int → Nat → Nat → Nat) (s : Int) (p z k : Nat) : Nat := (((rules.take k).filter fun r => r.1 = s).map fun r => ways T n F r.2 p z).sum
theorem sumK_zero (F : Int → Nat → Nat → Nat) (s : Int) (p z : Nat) : sumK T n rules F s p z 0 = 0 := rfl
theorem sumK_succ (F : Int → Nat → Nat → Nat) (s : Int) (p z k : Nat) (hk : k < rules.length) : sumK T n rules F s p z (k + 1) = sumK T n rules F s p z k + if rules[k].1 = s then ways T n F rules[k].2 p z else 0 := by
 unfold sumK
 rw [List.take_succ_eq_append_getElem hk, List.filter_append, List.map_append, List.sum_append]
 by_cases h : rules[k].1 = s
 ·rw [if_pos h, List.filter_cons_of_pos (by simpa using h)]
  simp
 rw [if_neg h, List.filter_cons_of_neg (by simpa using h)]
 simp
theorem cell_filled (hT : Fwd T) (hr : ∀ r ∈ rules, r.2 ≠ []) (rank : Int → Nat) (hk : Ranked rules rank) (Fil : Int → Nat → Nat → Prop) (s : Int) (p z : Nat) (hp : p ≤ n) (hz : z ≤ n)
  (hs : ∀ y a b, 0 ≤ y → p ≤ a → a ≤ n → a < b → b ≤ z → b - a < z - p → Fil y a b) (hu : ∀ r ∈ rules, r.1 = s → ∀ x, 0 ≤ x → r.2 = [x] → Fil x p z) : sumK T n rules (Fcur T n rules Fil) s p z rules.length = Num T n rules s p z := by
 rw [rt_ T n rules hT hr rank hk s p z hz]
 unfold sumK sumR
 rw [List.take_length]
 congr 1
 refine List.map_congr_left fun r h => ?_
 obtain ⟨h1, h2⟩ := List.mem_filter.1 h
 exact ms_ T n rules hT hr Fil r h1 p z hp hs (hu r h1 (of_decide_eq_true h2))
theorem step_sym (most S a b : Nat) : cap most (cap most S + cap most (cap most a * cap most b)) = cap most (S + a * b) := by
 rw [mu_, cap_add2]
theorem step_tok (most S a : Nat) : cap most (cap most S + cap most a) = cap most (S + a) := cap_add2 most S a
end
end Go.Proofs.YtjfbfhoipgldgaaGreat.Chart
end
