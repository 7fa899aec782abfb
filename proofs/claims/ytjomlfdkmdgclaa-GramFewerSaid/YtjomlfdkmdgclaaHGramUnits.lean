/- gram.Units: of each symbol, those that it may be alone. -/
import Derived.Test.YtjomlfdkmdgclaaHGramFrom
import Derived.Test.YtjomlfdkmdgclaaHGramRight
import Derived.Test.YtjomlfdkmdgclaaP3
import Derived.BigRegion
import Derived.DeepKeys4
import Derived.Test.YtjomlfdkmdgclaaHStore
namespace Go.Proofs.Ytjomlfdkmdgclaa.P
open Go.RowKit Go.Proofs.YtjomlfdkmdgclaaW.PrintWords Go.Proofs.YtjomlfdkmdgclaaW.PrintLast Go.Proofs.YtjomlfdkmdgclaaW.PrintMore
attribute [local go_sem] max2_int min2_int max_two min_two max_three min_three max_four min_four   -- for this text's walks alone
set_option linter.unusedVariables false
set_option linter.unusedSimpArgs false

open Go.Maps (Keyed)
abbrev Rule' := S26
def encP (p : Int × Int) : Value := .agg #[.int .i64 p.1, .int .i64 p.2]
theorem encP_inj : ∀ x y, encP x = encP y → x = y := fun x y h => by
  simp [encP] at h
  exact Prod.ext h.1 h.2
theorem laidOut : laidOutB Try.prog = true := by kernel_rfl
theorem pairKeyed : Keyed Try.prog 56 := Keyed.of_law (deep_law_laid laidOut (m := 2) (by omega) (of_decide_eq_true (by kernel_rfl)) (by kernel_rfl) (by rw [Try.underlying56]))
theorem sizeTypes : ∃ n, Try.prog.types.size = n + 1 := ⟨Try.prog.types.size - 1, by have h : 0 < Try.prog.types.size := of_decide_eq_true (by kernel_rfl); omega⟩
theorem keyType2 : Try.prog.keyType 56 = true := by kernel_rfl
theorem cellsOf2 : Try.prog.cellsOf 56 = 2 := by kernel_rfl
theorem cellsOf1 : Try.prog.cellsOf 3 = 1 := by kernel_rfl
theorem keyOfP {a b : Int} (ha : 0 ≤ a ∧ a < 20) (hb : 0 ≤ b ∧ b < 20) : ∃ l, keyOf Try.prog 56 (encP (a, b)) = some l := by
  obtain ⟨n, hn⟩ := sizeTypes
  have wa : (Lit.int .i64 a).wf = true := WalkArith.wf_i64 (by omega)
  have wb : (Lit.int .i64 b).wf = true := WalkArith.wf_i64 (by omega)
  refine ⟨.string (keyBytes [.int .i64 a, .int .i64 b]), ?_⟩
  unfold keyOf encP
  rw [Try.underlying56]
  simp only [keyType2, Value.formed, Try.underlying56, cellsOf2, Value.cells, hn]
  simp [Program.keyLits, Try.underlying56, Try.underlying3, cellsOf2, cellsOf1, wa, wb, List.range_succ]

/-! ### the first loop: what is found, how often -/
def foundStep (m : List ((Int × Int) × Int)) (r : Rule') : List ((Int × Int) × Int) :=
  if r.f1.length = 1 ∧ 0 ≤ rd r.f1 0 ∧ rd r.f1 0 < 20 then mput m (r.f0, rd r.f1 0) ((mget m (r.f0, rd r.f1 0)).getD 0 + 1) else m
def foundL (l : List Rule') : List ((Int × Int) × Int) := l.foldl foundStep []
abbrev encM (m : List ((Int × Int) × Int)) : List ((Int × Int) × Value) := m.map fun p => (p.1, Value.int .i64 p.2)
theorem getD_encM (m : List ((Int × Int) × Int)) (x : Int × Int) : (mget (encM m) x).getD (.int .i64 0) = .int .i64 ((mget m x).getD 0) := by
  rw [mget_map]; cases mget m x <;> rfl
theorem found_bound (l : List Rule') (x : Int × Int) : 0 ≤ (mget (foundL l) x).getD 0 ∧ (mget (foundL l) x).getD 0 ≤ l.length := by
  suffices h : ∀ (l : List Rule') (m : List ((Int × Int) × Int)) (n : Nat), (∀ x, 0 ≤ (mget m x).getD 0 ∧ (mget m x).getD 0 ≤ n) → ∀ x, 0 ≤ (mget (l.foldl foundStep m) x).getD 0 ∧ (mget (l.foldl foundStep m) x).getD 0 ≤ (n + l.length : Nat) by
    have := h l [] 0 (fun x => by simp [mget]) x
    rw [Nat.zero_add] at this
    exact this
  intro l
  induction l with
  | nil => intro m n h x; exact h x
  | cons r l ih =>
    intro m n h x
    have h2 : ∀ y, 0 ≤ (mget (foundStep m r) y).getD 0 ∧ (mget (foundStep m r) y).getD 0 ≤ ((n + 1 : Nat) : Int) := by
      intro y
      unfold foundStep
      split
      · by_cases e : y = (r.f0, rd r.f1 0)
        · subst e
          rw [mget_mput_same]
          have := h (r.f0, rd r.f1 0)
          simp only [Option.getD_some]
          omega
        · rw [mget_mput_other _ _ _ e]
          have := h y
          omega
      · have := h y
        omega
    have := ih (foundStep m r) (n + 1) h2 x
    rw [List.foldl_cons, List.length_cons, show n + (l.length + 1) = n + 1 + l.length by omega]
    exact this
theorem found_snoc (l : List Rule') (k : Nat) (h : k < l.length) : foundL (l.take (k + 1)) = foundStep (foundL (l.take k)) l[k] := by
  unfold foundL
  rw [List.take_succ_eq_append_getElem h, List.foldl_append]
  rfl

/-- One round's store: 'found[k]++'. -/
theorem map_incr {P : Program} {κ : Type} [DecidableEq κ] {kt t e : TypeId} {enc : κ → Value} {w : World} {b : Nat} {m : List (κ × Value)} {z : Value} (h : MapOf P kt enc w b m) (K : Keyed P kt) (hinj : ∀ x y, enc x = enc y → x = y) (ht : P.underlying t = some (.map kt e)) (hz : ∀ w, (zeroValue e).run P w = .ok z w)
    (k : κ) (hk : ∃ l, keyOf P kt (enc k) = some l) (v v2 : Value) (hv : (mget m k).getD z = v) :
    ∃ w1 n w2, (Instr.mapEntry t (.map (some b)) (enc k)).run P w = .ok (.tuple #[v, .int .i64 n]) w1 ∧ (Instr.lookup t (.map (some b)) (enc k) false).run P w1 = .ok v w1 ∧ (Instr.entryStore t (.map (some b)) (.int .i64 n) v2).run P w1 = .ok () w2 ∧ MapOf P kt enc w2 b (mput m k v2) ∧ w.grownBy w2 (some b) ∧ w2.heap.size = w.heap.size := by
  obtain ⟨w1, n, h1, _, _, ⟨m1, hm1, hg1⟩, h4⟩ := h.entry K hinj ht hz k hk
  obtain ⟨w2, h5, h6, h7, h8⟩ := h4 v2
  have h9 := hm1.lookup K hinj ht (hz w1) k hk false
  rw [hg1, hv] at h9
  exact ⟨w1, n, w2, by rw [h1, hv], h9, h5, h6, h7, h8⟩

def unitsB (l0 : List Rule') : Bool := l0.all (fun r => decide (0 ≤ r.f0 ∧ r.f0 < 20)) && decide (l0.length ≤ 1000000000000)
def unitsP (l0 : List Rule') : List (List Int) := (List.range 20).map fun (s : Nat) => ((List.range 20).map fun (x : Nat) => (x : Int)).filter fun x => decide (0 < (mget (foundL l0) ((s : Int), x)).getD 0)
def gram_Units.f (l0 : List Rule') : Option (List (List Int)) := if unitsB l0 = true then some (unitsP l0) else none
theorem zero_slice (w : World) : (zeroValue 22).run Try.prog w = .ok (.slice none 0 0) w := by kernel_rfl

/-! ### the rows that are filled -/
def rowUpto (m : List ((Int × Int) × Int)) (s n : Nat) : List Int := ((List.range n).map fun (x : Nat) => (x : Int)).filter fun x => decide (0 < (mget m ((s : Int), x)).getD 0)
theorem rowUpto_succ (m : List ((Int × Int) × Int)) (s n : Nat) : rowUpto m s (n + 1) = rowUpto m s n ++ if 0 < (mget m ((s : Int), (n : Int))).getD 0 then [(n : Int)] else [] := by
  unfold rowUpto
  rw [List.range_succ, List.map_append, List.filter_append]
  congr 1
  by_cases h : 0 < (mget m ((s : Int), (n : Int))).getD 0 <;> simp [h]
theorem rowUpto_len (m : List ((Int × Int) × Int)) (s n : Nat) : (rowUpto m s n).length ≤ n := by
  unfold rowUpto
  have := List.length_filter_le (fun x => decide (0 < (mget m ((s : Int), x)).getD 0)) ((List.range n).map fun (x : Nat) => (x : Int))
  simpa using this

/-- Rows 0 to i - 1 are there, the others are nil. -/
structure URows (base g : Nat) (row : Nat → List Int) (i : Nat) (W : World) (vals : List Value) (f : Nat → Nat) : Prop where
  len : vals.length = 20
  blk : W.heap[g]? = some (.cells vals.toArray 22 (0, 0))
  ge : base ≤ g
  done : ∀ j, j < i → ∃ v, vals[j]? = some v ∧ Kd.R (Kd.int .i64) 3 W base (fun k => k ≠ g ∧ f k = j) v (row j)
  rest : ∀ j, i ≤ j → j < 20 → vals[j]? = some (.slice none 0 0)
/-- Row i is being filled: it is u; what was made for it lies from block N on. -/
structure UCur (base g N : Nat) (row : Nat → List Int) (i : Nat) (W : World) (vals : List Value) (f : Nat → Nat) (u : Value) (cur : List Int) : Prop where
  len : vals.length = 20
  blk : W.heap[g]? = some (.cells vals.toArray 22 (0, 0))
  ge : base ≤ g
  done : ∀ j, j < i → ∃ v, vals[j]? = some v ∧ Kd.R (Kd.int .i64) 3 W base (fun k => (k ≠ g ∧ f k = j) ∧ k < N) v (row j)
  rest : ∀ j, i < j → j < 20 → vals[j]? = some (.slice none 0 0)
  at_ : vals[i]? = some u
  cur : Kd.R (Kd.int .i64) 3 W base (fun k => k ≠ g ∧ N ≤ k) u cur
  gN : g < N
  size : N ≤ W.heap.size
theorem URows.start {base g : Nat} {row : Nat → List Int} {i : Nat} {W : World} {vals : List Value} {f : Nat → Nat} (h : URows base g row i W vals f) (hi : i < 20) : UCur base g W.heap.size row i W vals f (.slice none 0 0) [] :=
  ⟨h.len, h.blk, h.ge, fun j hj => by obtain ⟨v, h1, h2⟩ := h.done j hj; exact ⟨v, h1, Kd.R_mono (Kd.R_bound h2) (fun k hk => ⟨hk.1, hk.2.2.1⟩)⟩, fun j hj hj2 => h.rest j (by omega) hj2, h.rest i (Nat.le_refl _) hi, Kd.R_nil _ _ _ _ _, blk_lt h.blk, Nat.le_refl _⟩
theorem UCur.below {base g N : Nat} {row : Nat → List Int} {i : Nat} {W W1 : World} {vals : List Value} {f : Nat → Nat} {u : Value} {cur : List Int} (h : UCur base g N row i W vals f u cur) (hb : Below W.heap.size W W1) : UCur base g N row i W1 vals f u cur :=
  ⟨h.len, blk_below h.blk hb, h.ge, fun j hj => by obtain ⟨v, h1, h2⟩ := h.done j hj; exact ⟨v, h1, Kd.R_below h2 hb⟩, h.rest, h.at_, Kd.R_below h.cur hb, h.gN, Nat.le_trans h.size hb.size⟩
/-- Another row in row i's place: what stood there has been written to, or left. -/
theorem UCur.put {base g N : Nat} {row : Nat → List Int} {i : Nat} {W W1 : World} {vals : List Value} {f : Nat → Nat} {u u1 : Value} {cur cur1 : List Int} (h : UCur base g N row i W vals f u cur) (hg : W.grownBy W1 u.ownBlock)
    (hr : Kd.R (Kd.int .i64) 3 W1 base (fun k => k ≠ g ∧ N ≤ k) u1 cur1) : UCur base g N row i (W1.setCell ⟨g, i, none⟩ u1) (vals.set i u1) f u1 cur1 := by
  have hi : i < vals.length := (List.getElem?_eq_some_iff.1 h.at_).1
  have hne : ∀ k, (k ≠ g ∧ N ≤ k) → k ≠ (⟨g, i, none⟩ : Addr).block := fun k hk => hk.1
  have hub : ∀ k, k < N → some k ≠ u.ownBlock := fun k hk e => by have := (h.cur.1 k e.symm).2; omega
  have hb1 : W1.heap[g]? = some (.cells vals.toArray 22 (0, 0)) := blk_grown h.blk hg (hub g h.gN)
  refine ⟨by rw [List.length_set]; exact h.len, ?_, h.ge, fun j hj => ?_, fun j hj hj2 => ?_, by rw [List.getElem?_set_self hi], Kd.R_far hr hne u1, h.gN, Nat.le_trans h.size (by simp [World.setCell]; exact hg.size)⟩
  · refine blk_put hb1 i u1 ?_
    simp
  · obtain ⟨v, h1, h2⟩ := h.done j hj
    refine ⟨v, by rw [List.getElem?_set_ne (by omega)]; exact h1, Kd.R_far (Kd.R_grown h2 hg (fun k hk => hub k hk.2)) (fun k hk => hk.1.1) u1⟩
  · rw [List.getElem?_set_ne (by omega)]
    exact h.rest j hj hj2
theorem UCur.finish {base g N : Nat} {row : Nat → List Int} {i : Nat} {W : World} {vals : List Value} {f : Nat → Nat} {u : Value} (h : UCur base g N row i W vals f u (row i)) : URows base g row (i + 1) W vals (fun k => if k < N then f k else i) := by
  refine ⟨h.len, h.blk, h.ge, fun j hj => ?_, fun j hj hj2 => h.rest j (by omega) hj2⟩
  by_cases e : j = i
  · subst e
    exact ⟨u, h.at_, Kd.R_mono h.cur (fun k hk => ⟨hk.1, by rw [if_neg (by omega)]⟩)⟩
  · obtain ⟨v, h1, h2⟩ := h.done j (by omega)
    exact ⟨v, h1, Kd.R_mono h2 (fun k hk => ⟨hk.1.1, by rw [if_pos hk.2]; exact hk.1.2⟩)⟩
theorem URows.toS {base g : Nat} {row : Nat → List Int} {W : World} {vals : List Value} {f : Nat → Nat} (h : URows base g row 20 W vals f) :
    Kd.S (Kd.slice 3 (Kd.int .i64)) 22 W base (fun _ => True) (.slice (some ⟨g, 0, none⟩) 20 20) ((List.range 20).map row) := by
  refine ⟨f, fun _ _ => trivial, vals, ⟨?_, .inr ⟨g, 20, vals.toArray, rfl, h.ge, h.blk, by simp, by unfold maxLen; omega, by simp [h.len, Kd.tag, Kd.slice], ?_⟩⟩, ?_, fun j p hj => ?_⟩
  · simp [h.len, Kd.tag, Kd.slice]
  · have : vals.take 20 = vals := by rw [← h.len]; exact List.take_length
    simpa [Kd.tag, Kd.slice] using this
  · simp [h.len, Kd.tag, Kd.slice]
  · obtain ⟨x, n⟩ := p
    rw [List.getElem?_zipIdx] at hj
    obtain ⟨y, hy, hp⟩ := Option.map_eq_some_iff.1 hj
    simp only [Nat.zero_add, Prod.mk.injEq] at hp
    obtain ⟨rfl, rfl⟩ := hp
    have hj20 : j < 20 := by have := (List.getElem?_eq_some_iff.1 hy).1; simpa using this
    rw [List.getElem?_map, List.getElem?_range hj20] at hy
    have hy2 : row j = y := by simpa using hy
    obtain ⟨v, h1, h2⟩ := h.done j hj20
    have h3 : (vals.drop (j * 1)).take 1 = [v] := by
      obtain ⟨hl, hv⟩ := List.getElem?_eq_some_iff.1 h1
      rw [Nat.mul_one, List.drop_eq_getElem_cons hl, hv]; rfl
    show ((Kd.tag f (Kd.slice 3 (Kd.int .i64))).M W base _ (y, j) ((vals.drop (j * 1)).take 1))
    rw [h3]
    refine ⟨v, rfl, ?_⟩
    rw [← hy2]
    refine Kd.R_mono h2 (fun k hk => ⟨⟨trivial, ?_⟩, hk.2⟩)
    simp [Value.ownBlock]
    exact hk.1

set_option maxHeartbeats 4000000 in
set_option maxRecDepth 100000 in
theorem units_walk (A0 : Option Addr) (c0 : Nat) (l0 : List Rule') (w : World) (hr0 : Kd.C k26 w A0 l0.length l0) (hc0 : l0.length ≤ c0) (hu : unitsB l0 = true) :
    Calls Try.prog 19 #[.slice A0 l0.length c0] w fun e w' => ∃ v0_ : Value, e = .returned (v0_) ∧ Kd.S (Kd.slice 3 (Kd.int .i64)) 22 w' w.heap.size (fun _ => True) v0_ (unitsP l0) ∧ Below w.heap.size w w' := by
  have hmm := @run_makeMap Try.prog
  have hu2 := hu
  simp only [unitsB, Bool.and_eq_true, List.all_eq_true, decide_eq_true_eq] at hu2
  obtain ⟨hu3, hlen⟩ := hu2
  have HU := Aside0.mk hu3
  have HR := Aside0.mk hr0
  have HC := Aside0.mk hc0
  clear hr0 hc0 hu hu3
  go_enter Try.func19, Try.ntmps19
  go_wp2
  go_loopg [12] l0.length (fun gg s12 wr => ∃ kk : Nat, kk ≤ l0.length ∧ l0.length - kk ≤ gg ∧ s12 = .int .i64 kk ∧ Aside0 (MapOf Try.prog 56 encP wr w.heap.size (encM (foundL (l0.take kk)))) ∧ Aside0 (Below w.heap.size w wr) ∧ Aside0 (w.heap.size < wr.heap.size))
  case atStart => exact ⟨0, Nat.zero_le _, by omega, rfl, ⟨MapOf.made _ _ _ _⟩, ⟨below_alloc (Below.refl _ _) _⟩, ⟨by simp⟩⟩
  case round =>
    obtain ⟨kk, hkk, hg, rfl, HM, HB, HS⟩ := hrel
    by_cases hlt : kk < l0.length
    · have hltz : (kk : Int) < (l0.length : Int) := by omega
      obtain ⟨ad, A1, c1, A3, c3, hA, h0, h1, h2, h3, h4, l1, g1, l3, g3⟩ := at_T26 (Kd.C_below HR.out HB.out) kk (by omega) hltz
      have hx : rd_T26 l0 kk = l0[kk] := by simp [rd_T26, List.getD_eq_getElem?_getD, List.getElem?_eq_getElem hlt]
      have hlhs := HU.out l0[kk] (List.getElem_mem hlt)
      rw [← hx] at hlhs
      have hsn := found_snoc l0 kk hlt
      rw [← hx] at hsn
      generalize rd_T26 l0 kk = y at *
      rw [Int.toNat_natCast] at h0 h1 h2 h3 h4
      subst hA
      clear hx l3 g3
      have HSN := Aside0.mk hsn
      clear hsn
      by_cases hone : y.f1.length = 1
      · obtain ⟨ad1, hA1, hcell⟩ := Kd.at_int g1 0 (by omega) (by omega)
        have hcell' : wr.cell? ad1 = some (.int .i64 (rd y.f1 0)) := hcell
        subst hA1
        have hlx : wr.heap.size > ad1.block := World.block_lt_of_cell? wr _ hcell'
        have hcell2 : (wr.alloc (.cells #[.int .i64 y.f0, .slice (some ad1) 1 c1, .int .i64 y.f2.f0, .slice A3 y.f2.f1.length c3, .int .i64 y.f3] 26)).cell? ad1 = some (.int .i64 (rd y.f1 0)) := (World.cell?_alloc_lt _ _ _ hlx).trans hcell'
        rw [hone] at h1
        generalize hrd : rd y.f1 0 = x at *
        have HRD := Aside0.mk hrd
        clear hrd
        have hsym := Aside0.mk (symbol_some x)
        clear hcell g1 hcell' hlx
        have HM1 := Aside0.mk (HM.out.alloc (.cells #[.int .i64 y.f0, .slice (some ad1) 1 c1, .int .i64 y.f2.f0, .slice A3 y.f2.f1.length c3, .int .i64 y.f3] 26))
        have HB1 := Aside0.mk (below_alloc HB.out (.cells #[.int .i64 y.f0, .slice (some ad1) 1 c1, .int .i64 y.f2.f0, .slice A3 y.f2.f1.length c3, .int .i64 y.f3] 26))
        have HBK := Aside0.mk (blk_new wr (.cells #[.int .i64 y.f0, .slice (some ad1) 1 c1, .int .i64 y.f2.f0, .slice A3 y.f2.f1.length c3, .int .i64 y.f3] 26))
        have HS1 : Aside0 (w.heap.size < (wr.alloc (.cells #[.int .i64 y.f0, .slice (some ad1) 1 c1, .int .i64 y.f2.f0, .slice A3 y.f2.f1.length c3, .int .i64 y.f3] 26)).heap.size) := ⟨Nat.lt_of_lt_of_le HS.out (by simp)⟩
        cases hsx : symbolB x with
        | true =>
          rw [hsx] at hsym
          go_wp2_with fail
          refine (gram_symbol.calls _ _ _ hsym.out).mono ?_
          rintro e w' ⟨rfl, ⟨nd, rfl⟩⟩
          clear HM HB HS h0 h1 h2 h3 h4
          generalize hW : (wr.alloc (.cells #[.int .i64 y.f0, .slice (some ad1) 1 c1, .int .i64 y.f2.f0, .slice A3 y.f2.f1.length c3, .int .i64 y.f3] 26)).drewN nd = W1
          have HM2 : Aside0 (MapOf Try.prog 56 encP W1 w.heap.size (encM (foundL (l0.take kk)))) := ⟨by rw [← hW]; exact HM1.out⟩
          have HB2 : Aside0 (Below w.heap.size w W1) := ⟨by rw [← hW]; exact pw_below_drewN HB1.out _⟩
          have HBK2 : Aside0 (W1.heap[wr.heap.size]? = some (.cells #[.int .i64 y.f0, .slice (some ad1) 1 c1, .int .i64 y.f2.f0, .slice A3 y.f2.f1.length c3, .int .i64 y.f3] 26 (0, 0))) := ⟨by rw [← hW]; exact blk_drewN HBK.out _⟩
          have HS2 : Aside0 (w.heap.size < W1.heap.size) := ⟨by rw [← hW]; exact HS1.out⟩
          have k2 : W1.cell? ad1 = some (.int .i64 x) := by rw [← hW]; exact hcell2
          clear hcell2 HM1 HB1 HBK HS1 hW
          have d0 := blk_cell HBK2.out 0
          have d1 := blk_cell HBK2.out 1
          simp only [List.getElem?_toArray, List.getElem?_cons_succ, List.getElem?_cons_zero] at d0 d1
          have hsb : 0 ≤ x ∧ x < 20 := by simpa [symbolB] using hsx
          obtain ⟨hx0, hx1⟩ := hsb
          obtain ⟨hy0, hy1⟩ := hlhs
          have hkey := keyOfP (a := y.f0) (b := x) ⟨hy0, hy1⟩ ⟨hx0, hx1⟩
          have hb := found_bound (l0.take kk) (y.f0, x)
          obtain ⟨hb0, hb1⟩ := hb
          have hb2 : (l0.take kk).length ≤ kk := List.length_take_le _ _
          have hgv := getD_encM (foundL (l0.take kk)) (y.f0, x)
          have hmp := mput_map (Value.int .i64) (y.f0, x) ((mget (foundL (l0.take kk)) (y.f0, x)).getD 0 + 1) (foundL (l0.take kk))
          have hstep : foundStep (foundL (l0.take kk)) y = mput (foundL (l0.take kk)) (y.f0, x) ((mget (foundL (l0.take kk)) (y.f0, x)).getD 0 + 1) := by
            unfold foundStep
            rw [if_pos ⟨hone, by rw [HRD.out]; exact ⟨hx0, hx1⟩⟩, HRD.out]
          generalize (mget (foundL (l0.take kk)) (y.f0, x)).getD 0 = v at *
          have hv1 : v ≤ 1000000000000 := by omega
          have hlk := (HM2.out.drew).lookup pairKeyed encP_inj Try.underlying55 (zero_int W1.drew) (y.f0, x) hkey false
          rw [hgv] at hlk
          have hlk2 : (Instr.lookup 55 (.map (some w.heap.size)) (.agg #[.int .i64 y.f0, .int .i64 x]) false).run Try.prog W1.drew = .ok (.int .i64 v) W1.drew := hlk
          obtain ⟨w3, n3, w4, hE1, hL3, hE2, hm4, hg4, hz4⟩ := map_incr (HM2.out.drew) pairKeyed encP_inj Try.underlying55 zero_int (y.f0, x) hkey (.int .i64 v) (.int .i64 (v + 1)) hgv
          have hE3 : (Instr.mapEntry 55 (.map (some w.heap.size)) (.agg #[.int .i64 y.f0, .int .i64 x])).run Try.prog W1.drew = .ok (.tuple #[.int .i64 v, .int .i64 n3]) w3 := hE1
          rw [hmp, ← hstep] at hm4
          have hL4 : (Instr.lookup 55 (.map (some w.heap.size)) (.agg #[.int .i64 y.f0, .int .i64 x]) false).run Try.prog w3 = .ok (.int .i64 v) w3 := hL3
          have hwr : IntKind.i64.wrap (v + 1) = v + 1 := IntWalk.i64_in _ (by omega)
          have HM4 := Aside0.mk hm4
          have HG4 := Aside0.mk hg4
          have HZ4 := Aside0.mk hz4
          clear hlk hE1 hL3 hm4 hg4 hz4 hmp hstep hgv hb2
          go_wp2_with fail
          go_region
          all_goals
            go_wp2
            go_roundg (l0.length - (kk + 1))
            case measure => omega
            case rel =>
              exact ⟨kk + 1, by omega, by omega, by go_num, ⟨by rw [HSN.out]; exact HM4.out⟩, ⟨(HB2.out.drew).grown HG4.out HB2.out.size (fun j e => by cases e; exact Nat.le_refl _)⟩, ⟨by rw [HZ4.out]; exact HS2.out⟩⟩
        | false =>
          rw [hsx] at hsym
          go_wp2_with fail
          refine (gram_symbol.calls _ _ _ hsym.out).mono ?_
          rintro e w' ⟨rfl, ⟨nd, rfl⟩⟩
          go_wp2
          go_roundg (l0.length - (kk + 1))
          case measure => omega
          case rel =>
            refine ⟨kk + 1, by omega, by omega, by go_num, ⟨?_⟩, ⟨pw_below_drewN HB1.out _⟩, ⟨HS1.out⟩⟩
            have hst : foundStep (foundL (l0.take kk)) y = foundL (l0.take kk) := by
              unfold foundStep
              rw [if_neg (fun h => by rw [HRD.out] at h; simp [symbolB, h.2.1] at hsx; omega)]
            rw [HSN.out, hst]
            exact HM1.out.drewN _
      · have ht : ((y.f1.length : Int) == 1) = false := beq_eq_false_iff_ne.2 (by omega)
        have hst : foundStep (foundL (l0.take kk)) y = foundL (l0.take kk) := by
          unfold foundStep
          rw [if_neg (fun h => hone h.1)]
        have HST := Aside0.mk hst
        clear hst
        go_wp2
        go_roundg (l0.length - (kk + 1))
        case measure => omega
        case rel => exact ⟨kk + 1, by omega, by omega, by go_num, ⟨by rw [HSN.out, HST.out]; exact HM.out.alloc _⟩, ⟨below_alloc HB.out _⟩, ⟨Nat.lt_of_lt_of_le HS.out (by simp)⟩⟩
    · have hltz : ¬ (kk : Int) < (l0.length : Int) := by omega
      have hkl : kk = l0.length := by omega
      subst hkl
      have HM0 : Aside0 (MapOf Try.prog 56 encP wr w.heap.size (encM (foundL l0))) := ⟨by have := HM.out; rwa [List.take_length] at this⟩
      clear HM
      have HFB := Aside0.mk (found_bound l0)
      have HUP := Aside0.mk (show (List.range 20).map (fun j => rowUpto (foundL l0) j 20) = unitsP l0 from rfl)
      generalize foundL l0 = m at *
      have hmk : ∀ w, (Instr.makeSlice 37 (.int .i64 20) (.int .i64 20)).run Try.prog w = .ok (.slice (some ⟨w.heap.size, 0, none⟩) 20 20) (w.alloc (.cells (List.replicate 20 (Value.slice none 0 0)).toArray 22)) := fun _ => by kernel_rfl
      have HU0 : Aside0 (∃ vals f, URows w.heap.size wr.heap.size (fun j => rowUpto m j 20) 0 (wr.alloc (.cells (List.replicate 20 (Value.slice none 0 0)).toArray 22)) vals f) :=
        ⟨List.replicate 20 (.slice none 0 0), fun _ => 0, ⟨by simp, blk_new _ _, Nat.le_of_lt HS.out, fun j hj => absurd hj (Nat.not_lt_zero _), fun j _ hj => by rw [List.getElem?_replicate, if_pos hj]⟩⟩
      have HM1 := Aside0.mk (HM0.out.alloc (.cells (List.replicate 20 (Value.slice none 0 0)).toArray 22))
      have HB1 := Aside0.mk (below_alloc HB.out (.cells (List.replicate 20 (Value.slice none 0 0)).toArray 22))
      clear HM0 HB HS
      go_wp2
      generalize wr.heap.size = g at *
      go_loopg [43] 20 (fun gg s43 W => ∃ i : Nat, i ≤ 20 ∧ 20 - i ≤ gg ∧ s43 = .int .i64 i ∧ Aside0 (∃ vals f, URows w.heap.size g (fun j => rowUpto m j 20) i W vals f) ∧ Aside0 (MapOf Try.prog 56 encP W w.heap.size (encM m)) ∧ Aside0 (Below w.heap.size w W))
      case atStart => exact ⟨0, by omega, by omega, rfl, HU0, HM1, HB1⟩
      case round =>
        clear HU0 HM1 HB1
        obtain ⟨i, hi, hgi, rfl, HU1, HM1, HB1⟩ := hrel
        by_cases hi20 : i < 20
        · have hi20z : (i : Int) < 20 := by omega
          obtain ⟨vals, f, hU1⟩ := HU1.out
          have HC1 := Aside0.mk (hU1.start hi20)
          clear HU1 hU1
          generalize wr.heap.size = N at HC1
          go_wp2
          go_loopg [46] 20 (fun gg2 s46 W2 => ∃ x : Nat, x ≤ 20 ∧ 20 - x ≤ gg2 ∧ s46 = .int .i64 x ∧ Aside0 (∃ vals f u, UCur w.heap.size g N (fun j => rowUpto m j 20) i W2 vals f u (rowUpto m i x)) ∧ Aside0 (MapOf Try.prog 56 encP W2 w.heap.size (encM m)) ∧ Aside0 (Below w.heap.size w W2))
          case atStart => exact ⟨0, by omega, by omega, rfl, ⟨_, _, _, HC1.out⟩, HM1, HB1⟩
          case round =>
            clear HC1 HM1 HB1
            obtain ⟨x, hx, hgx, rfl, HC2, HM2, HB2⟩ := hrel
            obtain ⟨vals, f, u, hC2⟩ := HC2.out
            have HC3 := Aside0.mk hC2
            clear HC2 hC2
            have hc : wr.cell? ⟨g, i, none⟩ = some u := (blk_cell HC3.out.blk i).trans (by rw [List.getElem?_toArray]; exact HC3.out.at_)
            have hfz := blk_frozen HC3.out.blk i
            have hsu := rowUpto_succ m i x
            have hrl := rowUpto_len m i x
            obtain ⟨A4, c4, rfl⟩ := Kd.R_slice HC3.out.cur
            by_cases hx20 : x < 20
            · have hx20z : (x : Int) < 20 := by omega
              have hkey := keyOfP (a := (i : Int)) (b := (x : Int)) ⟨by omega, by omega⟩ ⟨by omega, by omega⟩
              have hgv := getD_encM m ((i : Int), (x : Int))
              generalize (mget m ((i : Int), (x : Int))).getD 0 = v at hgv hsu
              have HGV := Aside0.mk hgv
              have HSU := Aside0.mk hsu
              clear hgv hsu
              by_cases hv : 0 < v
              · have hub : ∀ k, k < N → some k ≠ (Value.slice A4 (rowUpto m i x).length c4).ownBlock := fun k hk e => by have := (HC3.out.cur.1 k e.symm).2; omega
                have hgn := HC3.out.gN
                have hil : i < vals.toArray.size := by have := HC3.out.len; simp; omega
                go_wp2_with (first
                  | (at_lookup; refine wpList_lookup_map rfl (.tmp 49) (.tmp 52) 55 3 rfl pairKeyed encP_inj Try.underlying55 zero_int rfl HM2.out ((i : Int), (x : Int)) rfl hkey (.int .i64 v) HGV.out ?_)
                  | (at_builtin; refine Kd.R_append (Kd.int .i64) (w0 := w) w.heap.size rfl (.tmp 60) (.tmp 62) 22 3 (.int .i64 0) 8 rfl Try.underlying22 info3 rfl (by decide) (by omega) (.slice A4 (rowUpto m i x).length c4) (rowUpto m i x) (x : Int) [.int .i64 x] (fun k => k ≠ g ∧ N ≤ k) (fun _ => False) rfl rfl rfl (fun _ hk => hk.elim) (fun k hk => ⟨fun e => by have := HC3.out.gN; have := HC3.out.size; omega, Nat.le_trans HC3.out.size hk⟩) HC3.out.cur HB2.out HB2.out.size (by omega) ?_; intro v1 w1 ho hb hgr hat; have ho' : Kd.R (Kd.int .i64) 3 w1 w.heap.size (fun k => k ≠ g ∧ N ≤ k) v1 (rowUpto m i x ++ [(x : Int)]) := ho; have HR1 := Aside0.mk ho'; have HB3 := Aside0.mk hb; have HG1 := Aside0.mk hgr; obtain ⟨A5, c5, rfl⟩ := Kd.R_slice ho'; clear ho ho' hb hgr hat)
                  | (refine gate_ (.store 22 (.tmp 64) (.tmp 63)) rfl ?_; have hblk1 := Aside0.mk (blk_grown HC3.out.blk HG1.out (hub g hgn)); go_loud (refine store_block rfl rfl 22 (.tmp 64) (.tmp 63) rfl (.slice A5 ((rowUpto m i x).length + 1) c5) rfl rfl rfl rfl rfl hblk1.out hil ?_); intro w2 hw2)
                  | fail)
                go_roundg (20 - (x + 1))
                case measure => omega
                case rel =>
                  have e5 : (Value.slice A5 ((rowUpto m i x).length + 1) c5) = .slice A5 (rowUpto m i x ++ [(x : Int)]).length c5 := by rw [List.length_append]; rfl
                  rw [e5] at hw2
                  subst hw2
                  refine ⟨x + 1, by omega, by omega, by go_num, ⟨vals.set i (.slice A5 (rowUpto m i x ++ [(x : Int)]).length c5), f, .slice A5 (rowUpto m i x ++ [(x : Int)]).length c5, ?_⟩, ⟨?_⟩, ⟨?_⟩⟩
                  · rw [HSU.out, if_pos hv]
                    have h9 := HC3.out.put HG1.out HR1.out
                    rw [← e5] at h9 ⊢
                    exact h9
                  · have hbN : w.heap.size < N := Nat.lt_of_le_of_lt HC3.out.ge HC3.out.gN
                    refine (HM2.out.grown HG1.out (hub _ hbN)).setCell _ (fun e => ?_) _
                    exact HM2.out.not_cells HC3.out.blk e
                  · exact HB3.out.setCell HC3.out.ge _
              · have hgt : ¬ (v > 0) := by omega
                go_wp2_with (first
                  | (at_lookup; refine wpList_lookup_map rfl (.tmp 49) (.tmp 52) 55 3 rfl pairKeyed encP_inj Try.underlying55 zero_int rfl HM2.out ((i : Int), (x : Int)) rfl hkey (.int .i64 v) HGV.out ?_)
                  | fail)
                go_roundg (20 - (x + 1))
                case measure => omega
                case rel =>
                  refine ⟨x + 1, by omega, by omega, by go_num, ⟨vals, f, .slice A4 (rowUpto m i x).length c4, ?_⟩, HM2, HB2⟩
                  rw [HSU.out, if_neg (by omega), List.append_nil]
                  exact HC3.out
            · have hx20z : ¬ (x : Int) < 20 := by omega
              have hxe : x = 20 := by omega
              subst hxe
              obtain ⟨A6, c6, e6, hle6, hC6⟩ := Kd.R_reads HC3.out.cur
              injection e6 with e7 e8 e9
              subst e7 e9
              have HC6 := Aside0.mk hC6
              have HL6 := Aside0.mk hle6
              clear hC6 hle6 e8
              have hil : i < vals.toArray.size := by have := HC3.out.len; simp; omega
              go_wp2_with fail
              refine (slices_Clone_int_int.calls _ _ (rowUpto m i 20) (rowUpto m i 20) _ HC6.out HL6.out (if_pos (by omega))).mono ?_
              rintro e w1 ⟨v1, rfl, hR1, hb1⟩
              have HR1 := Aside0.mk (Kd.R_lower (Kd.R_mono (Kd.R_bound hR1) (ok' := fun k => k ≠ g ∧ N ≤ k) (fun k hk => ⟨fun e => by have := HC3.out.gN; have := HC3.out.size; omega, Nat.le_trans HC3.out.size hk.2.1⟩)) HB2.out.size)
              have HM1 := Aside0.mk (HM2.out.below hb1)
              have HB1 := Aside0.mk (below_step HB2.out hb1)
              have HC1 := Aside0.mk (HC3.out.below hb1)
              have hblk1 := Aside0.mk HC1.out.blk
              obtain ⟨A7, c7, rfl⟩ := Kd.R_slice hR1
              clear hR1 hb1 hc hfz HC3 HM2 HB2 HC6 HL6
              generalize hrn : (rowUpto m i 20).length = n7 at *
              go_wp2_with (first
                  | (refine gate_ (.store 22 (.tmp 73) (.tmp 72)) rfl ?_; refine store_block rfl rfl 22 (.tmp 73) (.tmp 72) rfl (.slice A7 n7 c7) rfl rfl rfl rfl rfl hblk1.out hil ?_; intro w2 hw2)
                  | fail)
              go_roundg (20 - (i + 1))
              case measure => omega
              case rel =>
                subst hw2
                refine ⟨i + 1, by omega, by omega, by go_num, ⟨vals.set i (.slice A7 n7 c7), _, (HC1.out.put (World.grownBy.refl _ _) HR1.out).finish⟩, ⟨HM1.out.setCell _ (HM1.out.not_cells hblk1.out) _⟩, ⟨HB1.out.setCell HC1.out.ge _⟩⟩
        · have hi20z : ¬ (i : Int) < 20 := by omega
          have hie : i = 20 := by omega
          subst hie
          obtain ⟨vals, f, hU1⟩ := HU1.out
          have HV := Aside0.mk hU1.toS
          clear hU1 HU1
          go_wp2
          go_ret
          have h9 := HV.out
          rw [HUP.out] at h9
          exact ⟨_, rfl, h9, HB1.out⟩
theorem gram_Units.calls (A0 : Option Addr) (c0 : Nat) (l0 : List Rule') (r : List (List Int)) (w : World) (hr0 : Kd.C k26 w A0 l0.length l0) (hc0 : l0.length ≤ c0) (h : gram_Units.f l0 = some r) :
    Calls Try.prog 19 #[.slice A0 l0.length c0] w fun e w' => ∃ v0_ : Value, e = .returned (v0_) ∧ Kd.S (Kd.slice 3 (Kd.int .i64)) 22 w' w.heap.size (fun _ => True) v0_ r ∧ Below w.heap.size w w' := by
  unfold gram_Units.f at h
  split at h
  case isFalse => cases h
  case isTrue hu =>
  obtain rfl := Option.some.inj h
  exact units_walk A0 c0 l0 w hr0 hc0 hu
end Go.Proofs.Ytjomlfdkmdgclaa.P
