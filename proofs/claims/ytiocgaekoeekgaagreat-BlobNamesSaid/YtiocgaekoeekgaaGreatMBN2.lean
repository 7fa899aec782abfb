/- Names are of small letters, digits and dashes, and no two are one: the program and the document tell alike of any two names. Part 2: contracts of the functions that the law reaches, and words for them. -/
import Derived.CallsIn
import Derived.WalkSpells
import Derived.BigRegion
import Derived.DeepKeys4
import Derived.Lib.AppendZeros
import Derived.Laws.AppendOwn
import Derived.Deep.DeepCutAuto
import Derived.Deep.RegionLaw
import Derived.Deep.RegionHeld3
import Derived.Test.YtiocgaekoeekgaaGreatMBN1
section
namespace Go.Proofs.YtiocgaekoeekgaaGreat.P
open Go.RowKit Go.Proofs.YtiocgaekoeekgaaGreatW.PrintWords Go.Proofs.YtiocgaekoeekgaaGreatW.PrintLast Go.Proofs.YtiocgaekoeekgaaGreatW.PrintMore
attribute [local go_sem] max2_int min2_int max_two min_two max_three min_three max_four min_four   
set_option linter.unusedVariables false
set_option linter.unusedSimpArgs false
open Go.Maps (Keyed)
open Go.WideElems (Fit rd rg rg_of)
def sortI (l : List Int) : List Int := l.mergeSort leI
theorem keys_calls (b : Nat) (W : World) : Calls Tryz.prog 141 #[.map (some b)] W fun e w' => e = .returned (.func (.func 157) #[] #[.pointer (some ⟨W.heap.size, 0, none⟩)]) ∧ w' = W.alloc (.cells #[.map (some b)] 181) :=
 (callsIn_wide (n := 5)).1 (AnyZI.keys_in Tryz.keysA Fence.wide 5 trivial rfl (some b) W)
theorem sortsA (m : Nat) : AnyZI.SortsIn Tryz.prog Tryz.sortedA_ren Fence.wide m :=
 ⟨fun blk off cap ss W hH hblk hsz => callsIn_wide.2 (AnyM.slices_Sort_int Tryz.sortA blk off cap ss W hH hblk hsz),
  fun p cap W => callsIn_wide.2 (AnyM.slices_Sort_int_none Tryz.sortA p cap W)⟩
theorem ownsMap_of {P : Program} {kt : TypeId} {w : World} {b : Nat} {m : List (Int × Value)} (hkt : P.underlying kt = some (.int .i64)) (h : MapOf P kt (Value.int .i64) w b m) (hlen : m.length ≤ maxLen) :
  ∃ D0 : DataW Unit, w.ownsMap P kt (fun _ => some (DataW.nil, [])) b m.length D0 ∧ (Go.intKeys D0).Perm (m.map (·.1)) ∧ Maps.size D0 = m.length := by
 obtain ⟨es, clock, hb, he, hk, hs⟩ := h
 have hl : es.size = m.length := by have := congrArg List.length he; simpa using this
 have hkey : ∀ x ∈ es.toList, ∃ a, x.key = .int .i64 a ∧ keyOf P kt x.key = some (.int .i64 a) := by
  intro x hx
  have : (x.key, x.val) ∈ m.map (fun p => (Value.int .i64 p.1, p.2)) := by rw [← he]; exact List.mem_map.2 ⟨x, hx, rfl⟩
  obtain ⟨p, hp, hpe⟩ := List.mem_map.1 this
  obtain ⟨l, hl⟩ := hk p hp
  obtain ⟨a, ha, rfl, _⟩ := Maps.keyOf_i64 hkt hl
  have h1 := (Prod.mk.inj hpe).1
  exact ⟨p.1, h1.symm, by rw [← h1, hl, Go.encZ_inj ha]⟩
 have hrd : ∀ x ∈ es.toList, ∃ y, rd P kt (fun _ => some ((DataW.nil : DataW Unit), [])) x = some y := by
  intro x hx
  obtain ⟨a, _, h2⟩ := hkey x hx
  exact ⟨_, Go.WideElems.rd_mk h2 rfl⟩
 refine ⟨.map ((es.toList.map (rg P kt (fun _ => some (DataW.nil, [])))).foldr DataW.insert []), ⟨es, clock, hb, ⟨by omega, hs, hrd⟩, by omega, rfl⟩, ?_, ?_⟩
 ·have hp := Go.WideShapes.sorted_perm (es.toList.map (rg P kt (fun _ => some ((DataW.nil : DataW Unit), []))))
  refine ((hp.map fun p => Go.intOf p.1)).trans (.of_eq ?_)
  rw [List.map_map]
  have h2 : m.map (·.1) = es.toList.map (fun x => match x.key with | .int _ a => a | _ => 0) := by
   have := congrArg (List.map (fun q : Value × Value => match q.1 with | .int _ a => a | _ => 0)) he
   rw [List.map_map, List.map_map] at this
   exact (this.trans (by rfl)).symm
  rw [h2]
  refine List.map_congr_left fun x hx => ?_
  obtain ⟨a, h3, h4⟩ := hkey x hx
  show Go.intOf (rg P kt _ x).1 = _
  rw [rg_of (Go.WideElems.rd_mk h4 rfl), h3]
  rfl
 ·show ((es.toList.map (rg P kt (fun _ => some ((DataW.nil : DataW Unit), [])))).foldr DataW.insert []).length = m.length
  rw [length_sorted]
  simpa using hl
theorem sorted_calls (b : Nat) (m : List (Int × Value)) (w : World) (h : MapOf Tryz.prog 3 (Value.int .i64) w b m) (hlen : m.length * 8 ≤ 140737488355328) :
  Calls Tryz.prog 140 #[.func (.func 157) #[] #[.pointer (some ⟨w.heap.size, 0, none⟩)]] (w.alloc (.cells #[.map (some b)] 181)) fun e w' =>
   ∃ v : Value, e = .returned v ∧ Kd.R (Kd.int .i64) 3 w' w.heap.size (fun _ => True) v (sortI (m.map (·.1))) ∧ Below w.heap.size w w' := by
 obtain ⟨D0, hown, hperm, hsize⟩ := ownsMap_of Tryz.underlying3 h (by unfold maxLen; omega)
 have hbl := hown.lt
 have hseq : SeqGives Fence.wide 2 Tryz.prog 157 #[.pointer (some ⟨w.heap.size, 0, none⟩)] encZ (fun ss => ss.Perm (intKeys D0)) (Maps.size D0) (w.alloc (.cells #[.map (some b)] 181)) :=
  AnyZI.keys_gives (ρ := Tryz.keysA_ren) { Tryz.keysA with } Fence.wide _ trivial rfl (by omega) w.heap.size b m.length D0 _ (by simp) (by simp) (by
   obtain ⟨es, clock, hb, Ft, hs, hD⟩ := hown
   exact ⟨es, clock, (Below.heap_alloc _ _ b hbl).trans hb, Ft, hs, hD⟩)
 have cS := AnyZI.sorted_in Tryz.sortedA Fence.wide 5 trivial trivial trivial trivial rfl (by omega) (sortsA _) (enters_of Tryz.func156 (by kernel_rfl) rfl) 157 #[.pointer (some ⟨w.heap.size, 0, none⟩)] trivial (enters_of Tryz.func157 (by kernel_rfl) rfl) _ _ (by rw [hsize]; unfold maxLen; omega) (by rw [hsize]; exact hlen) _ hseq
 change CallsIn _ _ Tryz.prog 140 _ _ _ at cS
 refine ((callsIn_wide (n := 5)).1 cS).mono ?_
 rintro e w' ⟨v, ss, rfl, hS, hrow, hnil, hb⟩
 have e1 : ss.mergeSort leI = sortI (m.map (·.1)) := mergeSort_of_perm_i (hS.trans hperm)
 refine ⟨v, rfl, ?_, (below_alloc (Below.refl _ w) _).trans (hb.mono (by simp))⟩
 have h3 : (sortI (m.map (·.1))).length = ss.length := by rw [← e1]; exact List.length_mergeSort ss
 have hr2 : w'.ownsRow (w.alloc (.cells #[.map (some b)] 181)).heap.size 3 1 v (sortI (m.map (·.1))).length ((sortI (m.map (·.1))).map (Value.int .i64)) := by
  rw [h3, ← e1]
  exact hrow
 have h4 : Kd.R (Kd.int .i64) 3 w' (w.alloc (.cells #[.map (some b)] 181)).heap.size (fun _ => True) v (sortI (m.map (·.1))) := Kd.R_of_own hr2 (fun _ _ => trivial)
 exact Kd.R_lower h4 (by simp)
end Go.Proofs.YtiocgaekoeekgaaGreat.P
end
section
namespace Go.Proofs.YtiocgaekoeekgaaGreat.P
open Go.RowKit Go.Proofs.YtiocgaekoeekgaaGreatW.PrintWords Go.Proofs.YtiocgaekoeekgaaGreatW.PrintLast Go.Proofs.YtiocgaekoeekgaaGreatW.PrintMore
attribute [local go_sem] max2_int min2_int max_two min_two max_three min_three max_four min_four   
set_option linter.unusedVariables false
set_option linter.unusedSimpArgs false
def slices_Clone_int_int.f (l0 : List Int) : Option (List Int) := if l0.length < 17592186044416 then some l0 else none
theorem slices_Clone_int_int.calls (A0 : Option Addr) (c0 : Nat) (l0 : List Int) (r : List Int) (w : World) (hr0 : Kd.C (Kd.int .i64) w A0 l0.length l0) (hc0 : l0.length ≤ c0) (h : slices_Clone_int_int.f l0 = some r) :
  Calls Tryz.prog 112 #[.slice A0 l0.length c0] w fun e w' => ∃ v0_ : Value, e = .returned (v0_) ∧ Kd.R (Kd.int .i64) 3 w' w.heap.size (fun _ => True) v0_ r ∧ Below w.heap.size w w' := by
 unfold slices_Clone_int_int.f at h
 split at h
 case isFalse => cases h
 case isTrue hl =>
 obtain rfl := Option.some.inj h
 clear h
 have q22 : ∀ (w : World) (a : Option Addr) (n c n' c' : Nat), (binOp .eql 35 (.slice a n c) (.slice none n' c')).run Tryz.prog w = .ok (.bool a.isNone) w := fun w a n c n' c' => Lib.run_eql_slice_nil w _ _ a n c n' c' Tryz.underlying35
 have HR := Aside0.mk hr0
 have HL := Aside0.mk hl
 clear hr0 hl
 cases A0 with
 | none =>
  have h0 : l0 = [] := by
   cases l0 with
   | nil => rfl
   | cons x l => obtain ⟨ad, e, _⟩ := HR.out.2.2 (by simp); cases e
  subst h0
  go_enter Tryz.func112, Tryz.ntmps112
  go_wp2
  go_ret
  exact ⟨_, rfl, Kd.R_nil _ _ _ _ _, Below.refl _ _⟩
 | some ad =>
  go_enter Tryz.func112, Tryz.ntmps112
  go_wp2_with (at_builtin; go_loud (refine Kd.R_append_row (Value.int .i64) 0 (h1 := fun _ => rfl) (w0 := w) w.heap.size rfl (.tmp 5) (.tmp 6) 35 3 (.int .i64 0) 8 rfl Tryz.underlying35 info3 rfl (by decide) (.slice (some ⟨w.heap.size, 0, none⟩) 0 0) [] l0 (some ad) l0.length c0 (fun _ => True) rfl rfl (fun _ _ => trivial) ?hO ?hR ?hB ?hb ?hl ?_); (case hO => go_loud (exact Kd.R_of_own (World.ownsRow_made w #[] 0 (Nat.le_refl _) (Nat.zero_le _) rfl) (fun _ _ => trivial))); (case hR => go_loud (exact Kd.C_alloc HR.out _)); (case hB => exact below_alloc (Below.refl _ _) _); (case hb => go_loud (simp)); (case hl => go_loud (have := HL.out; simp; omega)); intro v1 w1 ho hb hg hat)
  have ho' : Kd.R (Kd.int .i64) 3 w1 w.heap.size (fun _ => True) v1 l0 := ho
  have HO := Aside0.mk ho'
  have HB := Aside0.mk hb
  clear ho ho' hb hg hat
  go_wp2
  go_ret
  exact ⟨_, rfl, HO.out, HB.out⟩
end Go.Proofs.YtiocgaekoeekgaaGreat.P
end
section
namespace Go.Proofs.YtiocgaekoeekgaaGreat.P
open Go.RowKit Go.Proofs.YtiocgaekoeekgaaGreatW.PrintWords Go.Proofs.YtiocgaekoeekgaaGreatW.PrintLast Go.Proofs.YtiocgaekoeekgaaGreatW.PrintMore
attribute [local go_sem] max2_int min2_int max_two min_two max_three min_three max_four min_four   
set_option linter.unusedVariables false
set_option linter.unusedSimpArgs false
open Go.Maps (Keyed)
def FnLists (P : Program) (w : World) (dom : Int → Prop) (fv : Value) (next : Int → List Int) : Prop :=
 ∃ (g : Nat) (pre lb : Array Value), fv = .func (.func g) pre lb ∧ (∀ args w, (callFunc g args).run P w = .ok (.enter g args) w) ∧
  ∀ W x, Below w.heap.size w W → dom x → Calls P g (pre ++ #[.int .i64 x] ++ lb) W fun e w' => ∃ (A : Option Addr) (c : Nat), e = .returned (.slice A (next x).length c) ∧ (next x).length ≤ c ∧ Kd.C (Kd.int .i64) w' A (next x).length (next x) ∧ Below W.heap.size W w'
def fromF (next : Int → List Int) : Nat → List (Int × Int) → List Int → Option (List (Int × Int))
 | 0, _, _ => none
 | k + 1, m, q => match q with
  | [] => if m.length * 8 ≤ 140737488355328 then some m else none
  | x :: q => if (x :: q).length ≤ 1000000000 ∧ (next x).length ≤ 1000000000 ∧ 0 ≤ (mget m x).getD 0 ∧ (mget m x).getD 0 ≤ 1000000000000 then
    (if (mget m x).getD 0 = 0 then fromF next k (mput m x ((mget m x).getD 0 + 1)) (q ++ next x) else fromF next k (mput m x ((mget m x).getD 0 + 1)) q) else none
abbrev encI (m : List (Int × Int)) : List (Int × Value) := m.map fun p => (p.1, Value.int .i64 p.2)
theorem intKeyed : Keyed Tryz.prog 3 := Go.Maps.int_keyed Tryz.underlying3
theorem int_inj : ∀ x y : Int, Value.int .i64 x = Value.int .i64 y → x = y := fun x y h => by simpa using h
theorem zero_int (w : World) : (zeroValue 3).run Tryz.prog w = .ok (.int .i64 0) w := by kernel_rfl
theorem getD_encI (m : List (Int × Int)) (x : Int) : (mget (encI m) x).getD (.int .i64 0) = .int .i64 ((mget m x).getD 0) := by
 rw [mget_map]; cases mget m x <;> rfl
theorem fit_i64 {x : Int} (h : -9223372036854775808 ≤ x ∧ x ≤ 9223372036854775807) : ∃ l, keyOf Tryz.prog 3 (.int .i64 x) = some l := ⟨_, Go.Maps.keyOf_int_mk Tryz.underlying3 (WalkArith.wf_i64 (by omega))⟩
theorem from_walk (fv : Value) (next : Int → List Int) (dom : Int → Prop) (hdom : ∀ x, dom x → (-9223372036854775808 ≤ x ∧ x ≤ 9223372036854775807) ∧ ∀ y ∈ next x, dom y) (k : Nat) (A0 : Option Addr) (c0 : Nat) (l0 : List Int) (r : List (Int × Int)) (w : World)
  (hf : FnLists Tryz.prog w dom fv next) (hl0 : ∀ x ∈ l0, dom x) (hr0 : Kd.C (Kd.int .i64) w A0 l0.length l0) (hc0 : l0.length ≤ c0) (h : fromF next k [] l0 = some r) :
  Calls Tryz.prog 100 #[.slice A0 l0.length c0, fv] w fun e w' => ∃ v0_ : Value, e = .returned (v0_) ∧ Kd.R (Kd.int .i64) 3 w' w.heap.size (fun _ => True) v0_ (sortI (r.map (·.1))) ∧ Below w.heap.size w w' := by
 obtain ⟨g, pre, lb, rfl, eg, hq⟩ := hf
 have HQ := Aside0.mk hq
 have HR := Aside0.mk hr0
 have HC := Aside0.mk hc0
 have HD := Aside0.mk hdom
 have HL := Aside0.mk hl0
 have H := Aside0.mk h
 have hmm := @run_makeMap Tryz.prog
 clear hq hr0 hc0 hdom hl0 h
 go_enter Tryz.func100, Tryz.ntmps100
 go_wp2
 go_loopg [0] k (fun kq v0 wr => ∃ (q : List Int) (m : List (Int × Int)) (A : Option Addr) (c : Nat), v0 = .slice A q.length c ∧ Aside0 (fromF next kq m q = some r) ∧ Aside0 (kq ≤ k) ∧ Aside0 (q.length ≤ c) ∧ Aside0 (Kd.C (Kd.int .i64) wr A q.length q) ∧ Aside0 (∀ x ∈ q, dom x) ∧
  Aside0 (MapOf Tryz.prog 3 (Value.int .i64) wr w.heap.size (encI m)) ∧ Aside0 (Below w.heap.size w wr) ∧ Aside0 (w.heap.size < wr.heap.size))
 case atStart => exact ⟨l0, [], A0, c0, rfl, H, ⟨Nat.le_refl _⟩, HC, ⟨Kd.C_below HR.out (below_alloc (Below.refl _ _) _)⟩, HL, ⟨MapOf.made _ _ _ _⟩, ⟨below_alloc (Below.refl _ _) _⟩, ⟨by simp⟩⟩
 case round =>
  clear H HR HC HL
  obtain ⟨q, m, A, c, rfl, HF, HK, HC, HR, HL, HM, HB, HS⟩ := hrel
  cases gk with
  | zero => exact absurd HF.out (by simp [fromF])
  | succ k1 =>
   cases q with
   | nil =>
    have h2 := HF.out
    simp only [fromF] at h2
    split at h2
    case isFalse => cases h2
    case isTrue hlen =>
    obtain rfl := Option.some.inj h2
    clear h2
    have HN := Aside0.mk hlen
    clear hlen
    have hlt : ¬ (0 : Int) < (([] : List Int).length : Int) := by simp
    go_wp2_with fail
    refine (keys_calls _ _).mono ?_
    rintro e w' ⟨rfl, rfl⟩
    go_wp2_with fail
    refine (sorted_calls w.heap.size (encI m) _ HM.out (by rw [List.length_map]; exact HN.out)).mono ?_
    rintro e w' ⟨v, rfl, hR, hb⟩
    have hR2 := Aside0.mk hR
    have hb2 := Aside0.mk hb
    clear hR hb
    go_wp2
    go_ret
    have h3 := hR2.out
    rw [map_vals] at h3
    exact ⟨v, rfl, Kd.R_lower h3 HB.out.size, below_step HB.out hb2.out⟩
   | cons x q =>
    have h2 := HF.out
    simp only [fromF] at h2
    split at h2
    case isFalse => cases h2
    case isTrue hb =>
    obtain ⟨b1, b2, b3, b4⟩ := hb
    have hdx := HL.out x List.mem_cons_self
    obtain ⟨hx, hnx⟩ := HD.out x hdx
    have hkey := fit_i64 hx
    have HX := Aside0.mk hx
    have HNX := Aside0.mk hnx
    have HDX := Aside0.mk hdx
    have B1 := Aside0.mk b1
    have B2 := Aside0.mk b2
    have H3 := Aside0.mk h2
    obtain ⟨ad, hA, hcell⟩ := Kd.at_int HR.out 0 (by omega) (by simp)
    have hcell' : wr.cell? ad = some (.int .i64 x) := hcell
    subst hA
    obtain ⟨i0, hi, hz0, hz1, hz2⟩ := info_parts info3
    obtain ⟨A', hrun, hread, hcap⟩ := print_drop_of (P := Tryz.prog) (Value.int .i64) (0 : Int) 35 3 .i64 Tryz.underlying35 hi hz1 (some ad) c (x :: q) 1 (by omega) (by simp; omega) HC.out
    have hread2 : Kd.C (Kd.int .i64) wr A' q.length q := Kd.C_of_reads (hread wr (Kd.reads_of_C (d := (0 : Int)) HR.out))
    have hrun2 : ∀ W : World, (Instr.slice 35 (.slice (some ad) (x :: q).length c) (some (.int .i64 1)) none none).run Tryz.prog W = .ok (.slice A' q.length (c - 1)) W := hrun
    have hlt : (0 : Int) < ((x :: q).length : Int) := by simp
    have HR2 := Aside0.mk hread2
    have HC2 : Aside0 (q.length ≤ c - 1) := ⟨hcap⟩
    clear hcell hrun hread hcap hread2 hx hnx hdx b1 b2 h2 hi hz0 hz1 hz2
    have HB1 : (x :: q).length ≤ 1000000000 := B1.out
    generalize hn : (x :: q).length = n at hrun2 hlt HB1
    try rw [hn]
    have HN := Aside0.mk hn
    clear hn
    go_wp2_with fail
    refine (slices_Clone_int_int.calls _ _ q q _ HR2.out HC2.out (if_pos (by have := B1.out; simp at this; omega))).mono ?_
    rintro e w1 ⟨v1, rfl, hR1, hb1⟩
    have HM1 := Aside0.mk (HM.out.below hb1)
    have HR1 := Aside0.mk (Kd.R_lower (Kd.R_mono (Kd.R_bound hR1) (ok' := fun k => wr.heap.size ≤ k) (fun k hk => hk.2.1)) HB.out.size)
    have HB1' := Aside0.mk (below_step HB.out hb1)
    have HS1 := Aside0.mk (Nat.lt_of_lt_of_le HS.out hb1.size)
    obtain ⟨A1, c1, rfl⟩ := Kd.R_slice hR1
    clear hR1 hb1 hcell' hrun2
    have h3 := H3.out
    have hget := getD_encI m x
    have hmp := mput_map (Value.int .i64) x ((mget m x).getD 0 + 1) m
    have hgs : (mget (encI (mput m x ((mget m x).getD 0 + 1))) x).getD (.int .i64 0) = .int .i64 ((mget m x).getD 0 + 1) := by rw [getD_encI, mget_mput_same]; rfl
    generalize hv : (mget m x).getD 0 = v at h3 hget hmp hgs b3 b4
    have HG := Aside0.mk hget
    have HMP := Aside0.mk hmp
    have HGS := Aside0.mk hgs
    have H3' := Aside0.mk h3
    clear hget hmp hgs hv h3 H3
    by_cases hv0 : v = 0
    ·have H4 := Aside0.mk ((if_pos hv0).symm.trans H3'.out)
     subst hv0
     clear H3'
     go_wp2_with (first
      | (at_lookup; refine wpList_lookup_map rfl (.tmp 17) (.tmp 18) 181 3 rfl intKeyed int_inj Tryz.underlying181 zero_int rfl HM1.out x rfl hkey (.int .i64 0) HG.out ?_)
      | (at_mapUpdate; refine wpList_update_map rfl (.tmp 17) (.tmp 18) (.tmp 20) 181 3 rfl intKeyed int_inj Tryz.underlying181 rfl HM1.out x rfl hkey (.int .i64 (0 + 1)) rfl ?_; intro w2 hm2 hg2 hz2; rw [HMP.out] at hm2; have HM2 := Aside0.mk hm2; have HR2' := Aside0.mk (Kd.R_grown HR1.out hg2 (fun k hk e => by have := HS.out; have e2 := Option.some.inj e; omega)); have HB2 := Aside0.mk (HB1'.out.grown hg2 HB1'.out.size (fun j e => by have e2 := Option.some.inj e; omega)); have HS2 : Aside0 (w.heap.size < w2.heap.size) := ⟨by rw [hz2]; exact HS1.out⟩; clear hm2 hg2 hz2 HR1 HM1 HB1' HS1)
      | (at_lookup; refine wpList_lookup_map rfl (.tmp 21) (.tmp 22) 181 3 rfl intKeyed int_inj Tryz.underlying181 zero_int rfl HM2.out x rfl hkey (.int .i64 (0 + 1)) HGS.out ?_)
      | fail)
     refine (HQ.out _ x HB2.out HDX.out).mono ?_
     rintro e w3 ⟨A3, c3, rfl, hc3, hr3, hb3⟩
     have HR3 := Aside0.mk hr3
     have HC3 := Aside0.mk hc3
     have HM3 := Aside0.mk (HM2.out.below hb3)
     have HR2'' := Aside0.mk (Kd.R_mono (Kd.R_below HR2'.out hb3) (ok' := fun k => w.heap.size < k) (fun k hk => Nat.lt_of_lt_of_le HS.out hk))
     have HB3 := Aside0.mk (below_step HB2.out hb3)
     have HS3 := Aside0.mk (Nat.lt_of_lt_of_le HS2.out hb3.size)
     clear hr3 hc3 hb3 HM2 HR2' HB2 HS2
     go_wp2_with (at_builtin; refine Kd.R_append_row (Value.int .i64) 0 (h1 := fun _ => rfl) (w0 := w) w.heap.size rfl (.tmp 25) (.tmp 28) 35 3 (.int .i64 0) 8 rfl Tryz.underlying35 info3 rfl (by decide) (.slice A1 q.length c1) q (next x) A3 (next x).length c3 (fun k => w.heap.size < k) rfl rfl (fun k hk => Nat.lt_of_lt_of_le HS3.out hk) HR2''.out HR3.out HB3.out HB3.out.size (by have h1_ := B1.out; have h2_ := B2.out; simp only [List.length_cons] at h1_; omega) ?_; intro v4 w4 ho4 hb4 hg4 hat4; have HM4 := Aside0.mk (HM3.out.grown hg4 (fun e => by have h_ := HR2''.out.1 w.heap.size e.symm; exact absurd h_ (Nat.lt_irrefl _))); have ho5 : Kd.R (Kd.int .i64) 3 w4 w.heap.size (fun k => w.heap.size < k) v4 (q ++ next x) := ho4; have HR4 := Aside0.mk ho5; have HB4 := Aside0.mk hb4; have HS4 : Aside0 (w.heap.size < w4.heap.size) := ⟨Nat.lt_of_lt_of_le HS3.out hg4.size⟩; obtain ⟨A4, c4, rfl⟩ := Kd.R_slice ho5; clear ho4 ho5 hb4 hg4 hat4 HM3 HR2'' HB3 HS3 HR3 HC3)
     obtain ⟨A5, c5, e5, hle5, hC5⟩ := Kd.R_reads HR4.out
     injection e5 with e6 e7 e8
     subst e6 e8
     have HL5 := Aside0.mk hle5
     have HC5 := Aside0.mk hC5
     clear hle5 hC5 e7
     go_roundg k1
     case measure => have := HK.out; omega
     case rel =>
      exact ⟨q ++ next x, mput m x (0 + 1), A4, c4, by rw [List.length_append], H4, ⟨by have := HK.out; omega⟩, HL5, HC5, ⟨fun y hy => (List.mem_append.1 hy).elim (fun hy => HL.out y (List.mem_cons_of_mem _ hy)) (fun hy => HNX.out y hy)⟩, HM4, HB4, HS4⟩
    ·have H4 := Aside0.mk ((if_neg hv0).symm.trans H3'.out)
     have ht : ¬ (v + 1 = 1) := by omega
     clear H3'
     go_wp2_with (first
      | (at_lookup; refine wpList_lookup_map rfl (.tmp 17) (.tmp 18) 181 3 rfl intKeyed int_inj Tryz.underlying181 zero_int rfl HM1.out x rfl hkey (.int .i64 v) HG.out ?_)
      | (at_mapUpdate; refine wpList_update_map rfl (.tmp 17) (.tmp 18) (.tmp 20) 181 3 rfl intKeyed int_inj Tryz.underlying181 rfl HM1.out x rfl hkey (.int .i64 (v + 1)) rfl ?_; intro w2 hm2 hg2 hz2; rw [HMP.out] at hm2; have HM2 := Aside0.mk hm2; have HR2' := Aside0.mk (Kd.R_grown HR1.out hg2 (fun k hk e => by have := HS.out; have e2 := Option.some.inj e; omega)); have HB2 := Aside0.mk (HB1'.out.grown hg2 HB1'.out.size (fun j e => by have e2 := Option.some.inj e; omega)); have HS2 : Aside0 (w.heap.size < w2.heap.size) := ⟨by rw [hz2]; exact HS1.out⟩; clear hm2 hg2 hz2 HR1 HM1 HB1' HS1)
      | (at_lookup; refine wpList_lookup_map rfl (.tmp 21) (.tmp 22) 181 3 rfl intKeyed int_inj Tryz.underlying181 zero_int rfl HM2.out x rfl hkey (.int .i64 (v + 1)) HGS.out ?_))
     obtain ⟨A5, c5, e5, hle5, hC5⟩ := Kd.R_reads HR2'.out
     injection e5 with e6 e7 e8
     subst e6 e8
     have HL5 := Aside0.mk hle5
     have HC5 := Aside0.mk hC5
     clear hle5 hC5 e7
     go_roundg k1
     case measure => have := HK.out; omega
     case rel =>
      exact ⟨q, mput m x (v + 1), A1, c1, rfl, H4, ⟨by have := HK.out; omega⟩, HL5, HC5, ⟨fun y hy => HL.out y (List.mem_cons_of_mem _ hy)⟩, HM2, HB2, HS2⟩
end Go.Proofs.YtiocgaekoeekgaaGreat.P
end
section
namespace Go.Proofs.YtiocgaekoeekgaaGreat.P
open Go.RowKit Go.Proofs.YtiocgaekoeekgaaGreatW.PrintWords Go.Proofs.YtiocgaekoeekgaaGreatW.PrintLast Go.Proofs.YtiocgaekoeekgaaGreatW.PrintMore
attribute [local go_sem] max2_int min2_int max_two min_two max_three min_three max_four min_four   
set_option linter.unusedVariables false
set_option linter.unusedSimpArgs false
theorem indexFunc_int (fv : Value) (A0 : Option Addr) (c0 : Nat) (l0 : List Int) (p : Int → Bool) (w : World) (hr0 : Kd.C (Kd.int .i64) w A0 l0.length l0) (hc0 : l0.length ≤ c0)
  (hf : FnTells Tryz.prog w IntRel fv p) :
  Calls Tryz.prog 158 #[.slice A0 l0.length c0, fv] w fun e w' => e = .returned (.int .i64 (idxOf p l0)) ∧ Below w.heap.size w w' := by
 obtain ⟨g, pre, lb, rfl, eg, hq⟩ := hf
 have hl : l0.length ≤ 9223372036854775807 := hr0.2.1
 have HR := Aside0.mk hr0
 clear hr0
 have HQ := Aside0.mk hq
 clear hq
 go_enter Tryz.func158, Tryz.ntmps158
 go_wp2
 go_loopg [8] l0.length (fun gg s8 wr => ∃ kk : Nat, kk ≤ l0.length ∧ l0.length - kk ≤ gg ∧ s8 = .int .i64 kk ∧ Aside0 (Below w.heap.size w wr) ∧ Aside0 (∀ j, j < kk → ∀ h : j < l0.length, p l0[j] = false))
 case atStart => exact ⟨0, Nat.zero_le _, by omega, rfl, ⟨Below.refl _ w⟩, ⟨fun j hj => absurd hj (Nat.not_lt_zero _)⟩⟩
 case round =>
  obtain ⟨kk, hkk, hg, rfl, BW, A⟩ := hrel
  by_cases hlt : kk < l0.length
  ·have hltz : (kk : Int) < (l0.length : Int) := by omega
   obtain ⟨ad, hA, hcell⟩ := Kd.at_int HR.out kk (by omega) hltz
   have hcell' : wr.cell? (ad.add kk) = some (.int .i64 (rd l0 kk)) := pw_cell_below BW.out (by simpa using hcell)
   have hcall := HQ.out wr (rd l0 kk) _ BW.out rfl
   subst hA
   clear hcell
   cases hp : p (rd l0 kk) with
   | true =>
    rw [hp] at hcall
    go_wp2_with fail
    refine hcall.mono ?_
    rintro e w' ⟨rfl, hb'⟩
    go_wp2
    go_ret
    refine ⟨?_, below_then BW.out BW.out.size hb'⟩
    rw [idxOf_hit hlt A.out (by rw [← rd_getElem l0 kk hlt]; exact hp)]
    rfl
   | false =>
    rw [hp] at hcall
    go_wp2_with fail
    refine hcall.mono ?_
    rintro e w' ⟨rfl, hb'⟩
    go_wp2
    go_roundg (l0.length - (kk + 1))
    case measure => omega
    case rel =>
     refine ⟨kk + 1, by omega, by omega, by go_num, ⟨below_then BW.out BW.out.size hb'⟩, ⟨fun j hj hlt => ?_⟩⟩
     by_cases e : j = kk
     ·subst e
      rw [← rd_getElem l0 j hlt]; exact hp
     ·exact A.out j (by omega) hlt
  ·have hltz : ¬ (kk : Int) < (l0.length : Int) := by omega
   have : kk = l0.length := by omega
   subst this
   go_wp2
   go_ret
   refine ⟨?_, BW.out⟩
   rw [idxOf_miss A.out]
   rfl
theorem containsFunc_int (fv : Value) (A0 : Option Addr) (c0 : Nat) (l0 : List Int) (p : Int → Bool) (w : World) (hr0 : Kd.C (Kd.int .i64) w A0 l0.length l0) (hc0 : l0.length ≤ c0)
  (hf : FnTells Tryz.prog w IntRel fv p) :
  Calls Tryz.prog 153 #[.slice A0 l0.length c0, fv] w fun e w' => e = .returned (.bool (l0.any p)) ∧ Below w.heap.size w w' := by
 have hc := indexFunc_int fv A0 c0 l0 p w hr0 hc0 hf
 rw [← idxOf_ge]
 clear hr0 hf
 generalize idxOf p l0 = q at hc
 go_enter Tryz.func153, Tryz.ntmps153
 go_wp2_with fail
 refine hc.mono ?_
 rintro e w' ⟨rfl, hb'⟩
 go_wp2
 go_ret
 exact ⟨rfl, hb'⟩
end Go.Proofs.YtiocgaekoeekgaaGreat.P
end
section
namespace Go.Proofs.YtiocgaekoeekgaaGreat.P
open Go.RowKit Go.Proofs.YtiocgaekoeekgaaGreatW.PrintWords Go.Proofs.YtiocgaekoeekgaaGreatW.PrintLast Go.Proofs.YtiocgaekoeekgaaGreatW.PrintMore
attribute [local go_sem] max2_int min2_int max_two min_two max_three min_three max_four min_four   
set_option linter.unusedVariables false
set_option linter.unusedSimpArgs false
theorem all_closure (fv : Value) (p : Int → Bool) (w : World) (hf : FnTells Tryz.prog w IntRel fv p) :
  FnTells Tryz.prog (w.alloc (.cells #[fv] 142)) IntRel (.func (.func 154) #[] #[.pointer (some ⟨w.heap.size, 0, none⟩)]) (fun x => !p x) := by
 refine ⟨_, _, _, rfl, enters_of Tryz.func154 (by kernel_rfl) rfl, ?_⟩
 rintro W x v hb rfl
 obtain ⟨g, pre, lb, rfl, eg, hq⟩ := hf
 have hbw : Below w.heap.size w W := (below_alloc (Below.refl _ w) _).trans (hb.mono (by simp))
 have hcall := hq W x _ hbw rfl
 have hcell : W.cell? ⟨w.heap.size, 0, none⟩ = some (.func (.func g) pre lb) := pw_cell_below hb (cell_new0 _ _ _)
 clear hb hq hbw
 cases hp : p x with
 | true =>
  rw [hp] at hcall
  go_enter Tryz.func154, Tryz.ntmps154
  go_wp2_with fail
  refine hcall.mono ?_
  rintro e w' ⟨rfl, hb'⟩
  go_wp2
  go_ret
  exact ⟨ret_bool (by rw [hp]; rfl), hb'⟩
 | false =>
  rw [hp] at hcall
  go_enter Tryz.func154, Tryz.ntmps154
  go_wp2_with fail
  refine hcall.mono ?_
  rintro e w' ⟨rfl, hb'⟩
  go_wp2
  go_ret
  exact ⟨ret_bool (by rw [hp]; rfl), hb'⟩
theorem any_not_all {α : Type} (p : α → Bool) : ∀ l : List α, l.any (fun x => !p x) = !l.all p
 | [] => rfl
 | x :: l => by simp only [List.any_cons, List.all_cons, any_not_all p l, Bool.not_and]
theorem gram_all_calls (fv : Value) (A0 : Option Addr) (c0 : Nat) (l0 : List Int) (p : Int → Bool) (w : World) (hr0 : Kd.C (Kd.int .i64) w A0 l0.length l0) (hc0 : l0.length ≤ c0)
  (hf : FnTells Tryz.prog w IntRel fv p) :
  Calls Tryz.prog 136 #[.slice A0 l0.length c0, fv] w fun e w' => e = .returned (.bool (l0.all p)) ∧ Below w.heap.size w w' := by
 have h1 := all_closure fv p w hf
 have hc := containsFunc_int _ A0 c0 l0 (fun x => !p x) (w.alloc (.cells #[fv] 142)) (Kd.C_below hr0 (below_alloc (Below.refl _ w) _)) hc0 h1
 have ha : l0.any (fun x => !p x) = !l0.all p := any_not_all p l0
 rw [ha] at hc
 obtain ⟨g, pre, lb, rfl, eg, hq⟩ := hf
 clear hr0 hq h1 ha
 cases h : l0.all p with
 | true =>
  rw [h] at hc
  clear h
  go_enter Tryz.func136, Tryz.ntmps136
  go_wp2_with fail
  refine hc.mono ?_
  rintro e w' ⟨rfl, hb'⟩
  go_wp2
  go_ret
  exact ⟨rfl, (below_alloc (Below.refl _ w) _).trans (hb'.mono (by simp))⟩
 | false =>
  rw [h] at hc
  clear h
  go_enter Tryz.func136, Tryz.ntmps136
  go_wp2_with fail
  refine hc.mono ?_
  rintro e w' ⟨rfl, hb'⟩
  go_wp2
  go_ret
  exact ⟨rfl, (below_alloc (Below.refl _ w) _).trans (hb'.mono (by simp))⟩
def itemB (x : Int) : Bool := decide (x < 20) && decide (-61 ≤ x)
def placeB (n : Nat) (x : Int) : Bool := decide (0 ≤ x) && decide (x < (n : Int))
theorem item_tells (a0 : Int) (A1 : Option Addr) (c1 : Nat) (l1 : List Int) (a2 : Int) (A3 : Option Addr) (c3 : Nat) (l3 : List Int) (a4 : Int) (w : World) :
  FnTells Tryz.prog w IntRel (.func (.func 137) #[.agg #[.int .i64 a0, .slice A1 l1.length c1, .int .i64 a2, .slice A3 l3.length c3, .int .i64 a4]] #[]) itemB := by
 refine ⟨_, _, _, rfl, enters_of Tryz.func137 (by kernel_rfl) rfl, ?_⟩
 rintro W x v hb rfl
 clear hb
 by_cases h1 : x < 20
 ·have d1 : decide (x < 20) = true := decide_eq_true h1
  by_cases h2 : -61 ≤ x
  ·have d2 : decide (-61 ≤ x) = true := decide_eq_true h2
   have hz : itemB x = true := by simp [itemB, h1, h2]
   rw [hz]
   clear hz
   go_enter Tryz.func137, Tryz.ntmps137
   go_wp2
   go_ret
   exact ⟨rfl, below_alloc (Below.refl _ _) _⟩
  ·have d2 : decide (-61 ≤ x) = false := decide_eq_false h2
   have hz : itemB x = false := by simp [itemB, h1]; omega
   rw [hz]
   clear hz
   go_enter Tryz.func137, Tryz.ntmps137
   go_wp2
   go_ret
   exact ⟨rfl, below_alloc (Below.refl _ _) _⟩
 ·have d1 : decide (x < 20) = false := decide_eq_false h1
  have hz : itemB x = false := by simp [itemB, h1]
  rw [hz]
  clear hz
  go_enter Tryz.func137, Tryz.ntmps137
  go_wp2
  go_ret
  exact ⟨rfl, below_alloc (Below.refl _ _) _⟩
theorem place_tells (a0 : Int) (A1 : Option Addr) (c1 : Nat) (l1 : List Int) (a2 : Int) (A3 : Option Addr) (c3 : Nat) (l3 : List Int) (a4 : Int) (w : World) (hl : l1.length ≤ 9223372036854775807) :
  FnTells Tryz.prog w IntRel (.func (.func 138) #[.agg #[.int .i64 a0, .slice A1 l1.length c1, .int .i64 a2, .slice A3 l3.length c3, .int .i64 a4]] #[]) (placeB l1.length) := by
 refine ⟨_, _, _, rfl, enters_of Tryz.func138 (by kernel_rfl) rfl, ?_⟩
 rintro W x v hb rfl
 clear hb
 by_cases h1 : 0 ≤ x
 ·have d1 : decide (0 ≤ x) = true := decide_eq_true h1
  by_cases h2 : x < (l1.length : Int)
  ·have d2 : decide (x < (l1.length : Int)) = true := decide_eq_true h2
   have hz : placeB l1.length x = true := by simp [placeB, h1, h2]
   rw [hz]
   clear hz
   go_enter Tryz.func138, Tryz.ntmps138
   go_wp2
   go_ret
   exact ⟨rfl, below_alloc (Below.refl _ _) _⟩
  ·have d2 : decide (x < (l1.length : Int)) = false := decide_eq_false h2
   have hz : placeB l1.length x = false := by simp [placeB, h1]; omega
   rw [hz]
   clear hz
   go_enter Tryz.func138, Tryz.ntmps138
   go_wp2
   go_ret
   exact ⟨rfl, below_alloc (Below.refl _ _) _⟩
 ·have d1 : decide (0 ≤ x) = false := decide_eq_false h1
  have hz : placeB l1.length x = false := by simp [placeB, h1]
  rw [hz]
  clear hz
  go_enter Tryz.func138, Tryz.ntmps138
  go_wp2
  go_ret
  exact ⟨rfl, below_alloc (Below.refl _ _) _⟩
def askedP (op : Int) : Int × Int :=
 if op = 0 ∨ op = 7 ∨ op = 8 ∨ op = 11 then (1, 1) else if op = 2 ∨ op = 5 ∨ op = 9 ∨ op = 12 ∨ op = 13 ∨ op = 14 ∨ op = 15 then (2, 2)
 else if op = 1 ∨ op = 6 then (3, 3) else if op = 3 ∨ op = 4 then (2, 3) else if op = 10 then (1, 6) else (1, 0)
def symbolB (x : Int) : Bool := decide (0 ≤ x) && decide (x < 20)
def withinB (x a b : Int) : Bool := decide (a ≤ x) && decide (x ≤ b)
theorem asked_some (k : Nat) (op : Int) : gram_asked.f (k + 4) op = some (askedP op) := by
 by_cases h : 0 ≤ op ∧ op ≤ 15
 ·have : op = 0 ∨ op = 1 ∨ op = 2 ∨ op = 3 ∨ op = 4 ∨ op = 5 ∨ op = 6 ∨ op = 7 ∨ op = 8 ∨ op = 9 ∨ op = 10 ∨ op = 11 ∨ op = 12 ∨ op = 13 ∨ op = 14 ∨ op = 15 := by omega
  rcases this with rfl | rfl | rfl | rfl | rfl | rfl | rfl | rfl | rfl | rfl | rfl | rfl | rfl | rfl | rfl | rfl <;> rfl
 ·have n : ∀ k : Int, 0 ≤ k → k ≤ 15 → ¬ op = k := fun k h0 h1 e => h (by omega)
  have b : ∀ k : Int, 0 ≤ k → k ≤ 15 → ¬ (op == k) = true := fun k h0 h1 e => n k h0 h1 (by simpa using e)
  have e : askedP op = (1, 0) := by
   unfold askedP
   rw [if_neg (by omega), if_neg (by omega), if_neg (by omega), if_neg (by omega), if_neg (by omega)]
  rw [e]
  unfold gram_asked.f
  rw [if_neg (n 0 (by omega) (by omega)), if_neg (n 7 (by omega) (by omega)), if_neg (n 8 (by omega) (by omega)), gram_asked.j0]
  rw [if_neg (b 11 (by omega) (by omega)), if_neg (n 2 (by omega) (by omega)), if_neg (n 5 (by omega) (by omega)), if_neg (n 9 (by omega) (by omega)), if_neg (n 12 (by omega) (by omega)), if_neg (n 13 (by omega) (by omega)), if_neg (n 14 (by omega) (by omega)), gram_asked.j1]
  rw [if_neg (b 15 (by omega) (by omega)), if_neg (n 1 (by omega) (by omega)), gram_asked.j2]
  rw [if_neg (b 6 (by omega) (by omega)), if_neg (n 3 (by omega) (by omega)), gram_asked.j3]
  rw [if_neg (b 4 (by omega) (by omega)), if_neg (n 10 (by omega) (by omega))]
theorem symbol_some (x : Int) : gram_symbol.f x = some (symbolB x) := by
 unfold gram_symbol.f symbolB
 by_cases h0 : 0 ≤ x
 ·rw [if_pos h0, decide_eq_true h0]; rfl
 ·rw [if_neg h0, decide_eq_false h0]; rfl
theorem within_some (x a b : Int) : gram_within.f x a b = some (withinB x a b) := by
 unfold gram_within.f withinB
 by_cases h0 : a ≤ x
 ·rw [if_pos h0, decide_eq_true h0]; rfl
 ·rw [if_neg h0, decide_eq_false h0]; rfl
def rightP (a0 : Int) (l1 : List Int) (a2 : Int) (l3 : List Int) (a4 : Int) : Bool :=
 symbolB a0 && (withinB l1.length 1 6 && (l1.all itemB && (withinB a4 0 100 && (withinB l3.length (askedP a2).1 (askedP a2).2 && l3.all (placeB l1.length)))))
def gram_Right.f (a0_0 : Int) (l0_1 : List Int) (a0_2 : Int) (l0_3 : List Int) (a0_4 : Int) : Option Bool := some (rightP a0_0 l0_1 a0_2 l0_3 a0_4)
theorem right_walk (a0_0 : Int) (A0_1 : Option Addr) (c0_1 : Nat) (l0_1 : List Int) (a0_2 : Int) (A0_3 : Option Addr) (c0_3 : Nat) (l0_3 : List Int) (a0_4 : Int) (w : World) (hr0_1 : Kd.C (Kd.int .i64) w A0_1 l0_1.length l0_1) (hc0_1 : l0_1.length ≤ c0_1) (hr0_3 : Kd.C (Kd.int .i64) w A0_3 l0_3.length l0_3) (hc0_3 : l0_3.length ≤ c0_3) :
  Calls Tryz.prog 97 #[.agg #[.int .i64 a0_0, .slice A0_1 l0_1.length c0_1, .int .i64 a0_2, .slice A0_3 l0_3.length c0_3, .int .i64 a0_4]] w fun e w' => e = .returned (.bool (rightP a0_0 l0_1 a0_2 l0_3 a0_4)) ∧ Below w.heap.size w w' := by
 have hl1 : l0_1.length ≤ 9223372036854775807 := hr0_1.2.1
 have hl3 : l0_3.length ≤ 9223372036854775807 := hr0_3.2.1
 have K1 := fun w => item_tells a0_0 A0_1 c0_1 l0_1 a0_2 A0_3 c0_3 l0_3 a0_4 w
 have K2 := fun w => place_tells a0_0 A0_1 c0_1 l0_1 a0_2 A0_3 c0_3 l0_3 a0_4 w hl1
 have HR1 := Aside0.mk hr0_1
 have HR3 := Aside0.mk hr0_3
 have HA := Aside0.mk (asked_some 5 a0_2)
 generalize hq : askedP a0_2 = q at HA
 obtain ⟨q1, q2⟩ := q
 have HP : Aside0 (rightP a0_0 l0_1 a0_2 l0_3 a0_4 = (symbolB a0_0 && (withinB l0_1.length 1 6 && (l0_1.all itemB && (withinB a0_4 0 100 && (withinB l0_3.length q1 q2 && l0_3.all (placeB l0_1.length))))))) := ⟨by unfold rightP; rw [hq]⟩
 clear hq hr0_1 hr0_3
 have HB := Aside0.mk (Below.refl w.heap.size w)
 rw [HP.out]
 clear HP
 have HS := Aside0.mk (symbol_some a0_0)
 have HW1 := Aside0.mk (within_some l0_1.length 1 6)
 have HW2 := Aside0.mk (within_some a0_4 0 100)
 have HW3 := Aside0.mk (within_some l0_3.length q1 q2)
 cases h0 : symbolB a0_0 with
 | false =>
  rw [h0] at HS
  clear h0
  go_enter Tryz.func97, Tryz.ntmps97
  go_wp2_with fail
  refine (gram_asked.calls 9 _ q1 q2 _ HA.out).mono ?_
  rintro e w' ⟨rfl, ⟨nd, rfl⟩⟩
  go_wp2_with fail
  refine (gram_symbol.calls _ _ _ HS.out).mono ?_
  rintro e w' ⟨rfl, ⟨nd, rfl⟩⟩
  go_wp2
  go_ret
  exact ⟨rfl, by repeat (first | (with_reducible first | exact HB.out | apply below_alloc | apply pw_below_drewN | apply below_drew1) | exact HB.out)⟩
 | true =>
  rw [h0] at HS
  clear h0
  cases h1 : withinB l0_1.length 1 6 with
  | false =>
   rw [h1] at HW1
   clear h1
   go_enter Tryz.func97, Tryz.ntmps97
   go_wp2_with fail
   refine (gram_asked.calls 9 _ q1 q2 _ HA.out).mono ?_
   rintro e w' ⟨rfl, ⟨nd, rfl⟩⟩
   go_wp2_with fail
   refine (gram_symbol.calls _ _ _ HS.out).mono ?_
   rintro e w' ⟨rfl, ⟨nd, rfl⟩⟩
   go_wp2_with fail
   refine (gram_within.calls _ _ _ _ _ HW1.out).mono ?_
   rintro e w' ⟨rfl, ⟨nd, rfl⟩⟩
   go_wp2
   go_ret
   exact ⟨rfl, by repeat (first | (with_reducible first | exact HB.out | apply below_alloc | apply pw_below_drewN | apply below_drew1) | exact HB.out)⟩
  | true =>
   rw [h1] at HW1
   clear h1
   cases h2 : l0_1.all itemB with
   | false =>
    have H2 := Aside0.mk h2
    clear h2
    go_enter Tryz.func97, Tryz.ntmps97
    go_wp2_with fail
    refine (gram_asked.calls 9 _ q1 q2 _ HA.out).mono ?_
    rintro e w' ⟨rfl, ⟨nd, rfl⟩⟩
    go_wp2_with fail
    refine (gram_symbol.calls _ _ _ HS.out).mono ?_
    rintro e w' ⟨rfl, ⟨nd, rfl⟩⟩
    go_wp2_with fail
    refine (gram_within.calls _ _ _ _ _ HW1.out).mono ?_
    rintro e w' ⟨rfl, ⟨nd, rfl⟩⟩
    go_wp2_with fail
    refine (gram_all_calls _ _ _ _ _ _ (Kd.C_below HR1.out ?b2) hc0_1 (K1 _)).mono ?_
    case b2 => repeat (first | (with_reducible first | exact HB.out | apply below_alloc | apply pw_below_drewN | apply below_drew1) | exact HB.out)
    rw [H2.out]
    rintro e w2 ⟨rfl, hb⟩
    have n0_ := Aside0.mk (below_step (by repeat (first | (with_reducible first | exact HB.out | apply below_alloc | apply pw_below_drewN | apply below_drew1) | exact HB.out)) hb)
    have n1_ := Aside0.mk (blk_below (g := w.heap.size) (o := .cells #[.int .i64 a0_0, .slice A0_1 l0_1.length c0_1, .int .i64 a0_2, .slice A0_3 l0_3.length c0_3, .int .i64 a0_4] 56 (0, 0)) (by (with_reducible repeat (first | refine blk_drewN ?_ _ | refine blk_drew ?_)); exact blk_alloc (blk_new _ _) _) hb)
    have n2_ := Aside0.mk (blk_below (g := w.heap.size + 1) (o := .cells #[.int .i64 a0_0, .slice A0_1 l0_1.length c0_1, .int .i64 a0_2, .slice A0_3 l0_3.length c0_3, .int .i64 a0_4] 176 (0, 0)) (by (with_reducible repeat (first | refine blk_drewN ?_ _ | refine blk_drew ?_)); have h_ := blk_new (w.alloc (.cells #[.int .i64 a0_0, .slice A0_1 l0_1.length c0_1, .int .i64 a0_2, .slice A0_3 l0_3.length c0_3, .int .i64 a0_4] 56 (0, 0))) (.cells #[.int .i64 a0_0, .slice A0_1 l0_1.length c0_1, .int .i64 a0_2, .slice A0_3 l0_3.length c0_3, .int .i64 a0_4] 176 (0, 0)); rw [World.size_alloc] at h_; exact h_) hb)
    have c10 := blk_cell n1_.out 0
    have c20 := blk_cell n2_.out 0
    simp only [List.getElem?_toArray, List.getElem?_cons_succ, List.getElem?_cons_zero] at c10 c20
    have c11 := blk_cell n1_.out 1
    have c21 := blk_cell n2_.out 1
    simp only [List.getElem?_toArray, List.getElem?_cons_succ, List.getElem?_cons_zero] at c11 c21
    have c12 := blk_cell n1_.out 2
    have c22 := blk_cell n2_.out 2
    simp only [List.getElem?_toArray, List.getElem?_cons_succ, List.getElem?_cons_zero] at c12 c22
    have c13 := blk_cell n1_.out 3
    have c23 := blk_cell n2_.out 3
    simp only [List.getElem?_toArray, List.getElem?_cons_succ, List.getElem?_cons_zero] at c13 c23
    have c14 := blk_cell n1_.out 4
    have c24 := blk_cell n2_.out 4
    simp only [List.getElem?_toArray, List.getElem?_cons_succ, List.getElem?_cons_zero] at c14 c24
    clear n1_ n2_
    clear HB hb
    have HB := n0_
    clear n0_
    go_wp2
    go_ret
    exact ⟨rfl, by repeat (first | (with_reducible first | exact HB.out | apply below_alloc | apply pw_below_drewN | apply below_drew1) | exact HB.out)⟩
   | true =>
    have H2 := Aside0.mk h2
    clear h2
    cases h3 : withinB a0_4 0 100 with
    | false =>
     rw [h3] at HW2
     clear h3
     go_enter Tryz.func97, Tryz.ntmps97
     go_wp2_with fail
     refine (gram_asked.calls 9 _ q1 q2 _ HA.out).mono ?_
     rintro e w' ⟨rfl, ⟨nd, rfl⟩⟩
     go_wp2_with fail
     refine (gram_symbol.calls _ _ _ HS.out).mono ?_
     rintro e w' ⟨rfl, ⟨nd, rfl⟩⟩
     go_wp2_with fail
     refine (gram_within.calls _ _ _ _ _ HW1.out).mono ?_
     rintro e w' ⟨rfl, ⟨nd, rfl⟩⟩
     go_wp2_with fail
     refine (gram_all_calls _ _ _ _ _ _ (Kd.C_below HR1.out ?b2) hc0_1 (K1 _)).mono ?_
     case b2 => repeat (first | (with_reducible first | exact HB.out | apply below_alloc | apply pw_below_drewN | apply below_drew1) | exact HB.out)
     rw [H2.out]
     rintro e w2 ⟨rfl, hb⟩
     have n0_ := Aside0.mk (below_step (by repeat (first | (with_reducible first | exact HB.out | apply below_alloc | apply pw_below_drewN | apply below_drew1) | exact HB.out)) hb)
     have n1_ := Aside0.mk (blk_below (g := w.heap.size) (o := .cells #[.int .i64 a0_0, .slice A0_1 l0_1.length c0_1, .int .i64 a0_2, .slice A0_3 l0_3.length c0_3, .int .i64 a0_4] 56 (0, 0)) (by (with_reducible repeat (first | refine blk_drewN ?_ _ | refine blk_drew ?_)); exact blk_alloc (blk_new _ _) _) hb)
     have n2_ := Aside0.mk (blk_below (g := w.heap.size + 1) (o := .cells #[.int .i64 a0_0, .slice A0_1 l0_1.length c0_1, .int .i64 a0_2, .slice A0_3 l0_3.length c0_3, .int .i64 a0_4] 176 (0, 0)) (by (with_reducible repeat (first | refine blk_drewN ?_ _ | refine blk_drew ?_)); have h_ := blk_new (w.alloc (.cells #[.int .i64 a0_0, .slice A0_1 l0_1.length c0_1, .int .i64 a0_2, .slice A0_3 l0_3.length c0_3, .int .i64 a0_4] 56 (0, 0))) (.cells #[.int .i64 a0_0, .slice A0_1 l0_1.length c0_1, .int .i64 a0_2, .slice A0_3 l0_3.length c0_3, .int .i64 a0_4] 176 (0, 0)); rw [World.size_alloc] at h_; exact h_) hb)
     have c10 := blk_cell n1_.out 0
     have c20 := blk_cell n2_.out 0
     simp only [List.getElem?_toArray, List.getElem?_cons_succ, List.getElem?_cons_zero] at c10 c20
     have c11 := blk_cell n1_.out 1
     have c21 := blk_cell n2_.out 1
     simp only [List.getElem?_toArray, List.getElem?_cons_succ, List.getElem?_cons_zero] at c11 c21
     have c12 := blk_cell n1_.out 2
     have c22 := blk_cell n2_.out 2
     simp only [List.getElem?_toArray, List.getElem?_cons_succ, List.getElem?_cons_zero] at c12 c22
     have c13 := blk_cell n1_.out 3
     have c23 := blk_cell n2_.out 3
     simp only [List.getElem?_toArray, List.getElem?_cons_succ, List.getElem?_cons_zero] at c13 c23
     have c14 := blk_cell n1_.out 4
     have c24 := blk_cell n2_.out 4
     simp only [List.getElem?_toArray, List.getElem?_cons_succ, List.getElem?_cons_zero] at c14 c24
     clear n1_ n2_
     clear HB hb
     have HB := n0_
     clear n0_
     go_wp2_with fail
     refine (gram_within.calls _ _ _ _ _ HW2.out).mono ?_
     rintro e w' ⟨rfl, ⟨nd, rfl⟩⟩
     go_wp2
     go_ret
     exact ⟨rfl, by repeat (first | (with_reducible first | exact HB.out | apply below_alloc | apply pw_below_drewN | apply below_drew1) | exact HB.out)⟩
    | true =>
     rw [h3] at HW2
     clear h3
     cases h4 : withinB l0_3.length q1 q2 with
     | false =>
      rw [h4] at HW3
      clear h4
      go_enter Tryz.func97, Tryz.ntmps97
      go_wp2_with fail
      refine (gram_asked.calls 9 _ q1 q2 _ HA.out).mono ?_
      rintro e w' ⟨rfl, ⟨nd, rfl⟩⟩
      go_wp2_with fail
      refine (gram_symbol.calls _ _ _ HS.out).mono ?_
      rintro e w' ⟨rfl, ⟨nd, rfl⟩⟩
      go_wp2_with fail
      refine (gram_within.calls _ _ _ _ _ HW1.out).mono ?_
      rintro e w' ⟨rfl, ⟨nd, rfl⟩⟩
      go_wp2_with fail
      refine (gram_all_calls _ _ _ _ _ _ (Kd.C_below HR1.out ?b2) hc0_1 (K1 _)).mono ?_
      case b2 => repeat (first | (with_reducible first | exact HB.out | apply below_alloc | apply pw_below_drewN | apply below_drew1) | exact HB.out)
      rw [H2.out]
      rintro e w2 ⟨rfl, hb⟩
      have n0_ := Aside0.mk (below_step (by repeat (first | (with_reducible first | exact HB.out | apply below_alloc | apply pw_below_drewN | apply below_drew1) | exact HB.out)) hb)
      have n1_ := Aside0.mk (blk_below (g := w.heap.size) (o := .cells #[.int .i64 a0_0, .slice A0_1 l0_1.length c0_1, .int .i64 a0_2, .slice A0_3 l0_3.length c0_3, .int .i64 a0_4] 56 (0, 0)) (by (with_reducible repeat (first | refine blk_drewN ?_ _ | refine blk_drew ?_)); exact blk_alloc (blk_new _ _) _) hb)
      have n2_ := Aside0.mk (blk_below (g := w.heap.size + 1) (o := .cells #[.int .i64 a0_0, .slice A0_1 l0_1.length c0_1, .int .i64 a0_2, .slice A0_3 l0_3.length c0_3, .int .i64 a0_4] 176 (0, 0)) (by (with_reducible repeat (first | refine blk_drewN ?_ _ | refine blk_drew ?_)); have h_ := blk_new (w.alloc (.cells #[.int .i64 a0_0, .slice A0_1 l0_1.length c0_1, .int .i64 a0_2, .slice A0_3 l0_3.length c0_3, .int .i64 a0_4] 56 (0, 0))) (.cells #[.int .i64 a0_0, .slice A0_1 l0_1.length c0_1, .int .i64 a0_2, .slice A0_3 l0_3.length c0_3, .int .i64 a0_4] 176 (0, 0)); rw [World.size_alloc] at h_; exact h_) hb)
      have c10 := blk_cell n1_.out 0
      have c20 := blk_cell n2_.out 0
      simp only [List.getElem?_toArray, List.getElem?_cons_succ, List.getElem?_cons_zero] at c10 c20
      have c11 := blk_cell n1_.out 1
      have c21 := blk_cell n2_.out 1
      simp only [List.getElem?_toArray, List.getElem?_cons_succ, List.getElem?_cons_zero] at c11 c21
      have c12 := blk_cell n1_.out 2
      have c22 := blk_cell n2_.out 2
      simp only [List.getElem?_toArray, List.getElem?_cons_succ, List.getElem?_cons_zero] at c12 c22
      have c13 := blk_cell n1_.out 3
      have c23 := blk_cell n2_.out 3
      simp only [List.getElem?_toArray, List.getElem?_cons_succ, List.getElem?_cons_zero] at c13 c23
      have c14 := blk_cell n1_.out 4
      have c24 := blk_cell n2_.out 4
      simp only [List.getElem?_toArray, List.getElem?_cons_succ, List.getElem?_cons_zero] at c14 c24
      clear n1_ n2_
      clear HB hb
      have HB := n0_
      clear n0_
      go_wp2_with fail
      refine (gram_within.calls _ _ _ _ _ HW2.out).mono ?_
      rintro e w' ⟨rfl, ⟨nd, rfl⟩⟩
      go_wp2_with fail
      refine (gram_within.calls _ _ _ _ _ HW3.out).mono ?_
      rintro e w' ⟨rfl, ⟨nd, rfl⟩⟩
      go_wp2
      go_ret
      exact ⟨rfl, by repeat (first | (with_reducible first | exact HB.out | apply below_alloc | apply pw_below_drewN | apply below_drew1) | exact HB.out)⟩
     | true =>
      rw [h4] at HW3
      clear h4
      cases h5 : l0_3.all (placeB l0_1.length) with
      | false =>
       have H5 := Aside0.mk h5
       clear h5
       go_enter Tryz.func97, Tryz.ntmps97
       go_wp2_with fail
       refine (gram_asked.calls 9 _ q1 q2 _ HA.out).mono ?_
       rintro e w' ⟨rfl, ⟨nd, rfl⟩⟩
       go_wp2_with fail
       refine (gram_symbol.calls _ _ _ HS.out).mono ?_
       rintro e w' ⟨rfl, ⟨nd, rfl⟩⟩
       go_wp2_with fail
       refine (gram_within.calls _ _ _ _ _ HW1.out).mono ?_
       rintro e w' ⟨rfl, ⟨nd, rfl⟩⟩
       go_wp2_with fail
       refine (gram_all_calls _ _ _ _ _ _ (Kd.C_below HR1.out ?b2) hc0_1 (K1 _)).mono ?_
       case b2 => repeat (first | (with_reducible first | exact HB.out | apply below_alloc | apply pw_below_drewN | apply below_drew1) | exact HB.out)
       rw [H2.out]
       rintro e w2 ⟨rfl, hb⟩
       have n0_ := Aside0.mk (below_step (by repeat (first | (with_reducible first | exact HB.out | apply below_alloc | apply pw_below_drewN | apply below_drew1) | exact HB.out)) hb)
       have n1_ := Aside0.mk (blk_below (g := w.heap.size) (o := .cells #[.int .i64 a0_0, .slice A0_1 l0_1.length c0_1, .int .i64 a0_2, .slice A0_3 l0_3.length c0_3, .int .i64 a0_4] 56 (0, 0)) (by (with_reducible repeat (first | refine blk_drewN ?_ _ | refine blk_drew ?_)); exact blk_alloc (blk_new _ _) _) hb)
       have n2_ := Aside0.mk (blk_below (g := w.heap.size + 1) (o := .cells #[.int .i64 a0_0, .slice A0_1 l0_1.length c0_1, .int .i64 a0_2, .slice A0_3 l0_3.length c0_3, .int .i64 a0_4] 176 (0, 0)) (by (with_reducible repeat (first | refine blk_drewN ?_ _ | refine blk_drew ?_)); have h_ := blk_new (w.alloc (.cells #[.int .i64 a0_0, .slice A0_1 l0_1.length c0_1, .int .i64 a0_2, .slice A0_3 l0_3.length c0_3, .int .i64 a0_4] 56 (0, 0))) (.cells #[.int .i64 a0_0, .slice A0_1 l0_1.length c0_1, .int .i64 a0_2, .slice A0_3 l0_3.length c0_3, .int .i64 a0_4] 176 (0, 0)); rw [World.size_alloc] at h_; exact h_) hb)
       have c10 := blk_cell n1_.out 0
       have c20 := blk_cell n2_.out 0
       simp only [List.getElem?_toArray, List.getElem?_cons_succ, List.getElem?_cons_zero] at c10 c20
       have c11 := blk_cell n1_.out 1
       have c21 := blk_cell n2_.out 1
       simp only [List.getElem?_toArray, List.getElem?_cons_succ, List.getElem?_cons_zero] at c11 c21
       have c12 := blk_cell n1_.out 2
       have c22 := blk_cell n2_.out 2
       simp only [List.getElem?_toArray, List.getElem?_cons_succ, List.getElem?_cons_zero] at c12 c22
       have c13 := blk_cell n1_.out 3
       have c23 := blk_cell n2_.out 3
       simp only [List.getElem?_toArray, List.getElem?_cons_succ, List.getElem?_cons_zero] at c13 c23
       have c14 := blk_cell n1_.out 4
       have c24 := blk_cell n2_.out 4
       simp only [List.getElem?_toArray, List.getElem?_cons_succ, List.getElem?_cons_zero] at c14 c24
       clear n1_ n2_
       clear HB hb
       have HB := n0_
       clear n0_
       go_wp2_with fail
       refine (gram_within.calls _ _ _ _ _ HW2.out).mono ?_
       rintro e w' ⟨rfl, ⟨nd, rfl⟩⟩
       go_wp2_with fail
       refine (gram_within.calls _ _ _ _ _ HW3.out).mono ?_
       rintro e w' ⟨rfl, ⟨nd, rfl⟩⟩
       go_wp2_with fail
       refine (gram_all_calls _ _ _ _ _ _ (Kd.C_below HR3.out ?b5) hc0_3 (K2 _)).mono ?_
       case b5 => repeat (first | (with_reducible first | exact HB.out | apply below_alloc | apply pw_below_drewN | apply below_drew1) | exact HB.out)
       rw [H5.out]
       rintro e w5 ⟨rfl, hb⟩
       have n0_ := Aside0.mk (below_step (by repeat (first | (with_reducible first | exact HB.out | apply below_alloc | apply pw_below_drewN | apply below_drew1) | exact HB.out)) hb)
       clear HB hb
       have HB := n0_
       clear n0_
       go_wp2
       go_ret
       exact ⟨rfl, by repeat (first | (with_reducible first | exact HB.out | apply below_alloc | apply pw_below_drewN | apply below_drew1) | exact HB.out)⟩
      | true =>
       have H5 := Aside0.mk h5
       clear h5
       go_enter Tryz.func97, Tryz.ntmps97
       go_wp2_with fail
       refine (gram_asked.calls 9 _ q1 q2 _ HA.out).mono ?_
       rintro e w' ⟨rfl, ⟨nd, rfl⟩⟩
       go_wp2_with fail
       refine (gram_symbol.calls _ _ _ HS.out).mono ?_
       rintro e w' ⟨rfl, ⟨nd, rfl⟩⟩
       go_wp2_with fail
       refine (gram_within.calls _ _ _ _ _ HW1.out).mono ?_
       rintro e w' ⟨rfl, ⟨nd, rfl⟩⟩
       go_wp2_with fail
       refine (gram_all_calls _ _ _ _ _ _ (Kd.C_below HR1.out ?b2) hc0_1 (K1 _)).mono ?_
       case b2 => repeat (first | (with_reducible first | exact HB.out | apply below_alloc | apply pw_below_drewN | apply below_drew1) | exact HB.out)
       rw [H2.out]
       rintro e w2 ⟨rfl, hb⟩
       have n0_ := Aside0.mk (below_step (by repeat (first | (with_reducible first | exact HB.out | apply below_alloc | apply pw_below_drewN | apply below_drew1) | exact HB.out)) hb)
       have n1_ := Aside0.mk (blk_below (g := w.heap.size) (o := .cells #[.int .i64 a0_0, .slice A0_1 l0_1.length c0_1, .int .i64 a0_2, .slice A0_3 l0_3.length c0_3, .int .i64 a0_4] 56 (0, 0)) (by (with_reducible repeat (first | refine blk_drewN ?_ _ | refine blk_drew ?_)); exact blk_alloc (blk_new _ _) _) hb)
       have n2_ := Aside0.mk (blk_below (g := w.heap.size + 1) (o := .cells #[.int .i64 a0_0, .slice A0_1 l0_1.length c0_1, .int .i64 a0_2, .slice A0_3 l0_3.length c0_3, .int .i64 a0_4] 176 (0, 0)) (by (with_reducible repeat (first | refine blk_drewN ?_ _ | refine blk_drew ?_)); have h_ := blk_new (w.alloc (.cells #[.int .i64 a0_0, .slice A0_1 l0_1.length c0_1, .int .i64 a0_2, .slice A0_3 l0_3.length c0_3, .int .i64 a0_4] 56 (0, 0))) (.cells #[.int .i64 a0_0, .slice A0_1 l0_1.length c0_1, .int .i64 a0_2, .slice A0_3 l0_3.length c0_3, .int .i64 a0_4] 176 (0, 0)); rw [World.size_alloc] at h_; exact h_) hb)
       have c10 := blk_cell n1_.out 0
       have c20 := blk_cell n2_.out 0
       simp only [List.getElem?_toArray, List.getElem?_cons_succ, List.getElem?_cons_zero] at c10 c20
       have c11 := blk_cell n1_.out 1
       have c21 := blk_cell n2_.out 1
       simp only [List.getElem?_toArray, List.getElem?_cons_succ, List.getElem?_cons_zero] at c11 c21
       have c12 := blk_cell n1_.out 2
       have c22 := blk_cell n2_.out 2
       simp only [List.getElem?_toArray, List.getElem?_cons_succ, List.getElem?_cons_zero] at c12 c22
       have c13 := blk_cell n1_.out 3
       have c23 := blk_cell n2_.out 3
       simp only [List.getElem?_toArray, List.getElem?_cons_succ, List.getElem?_cons_zero] at c13 c23
       have c14 := blk_cell n1_.out 4
       have c24 := blk_cell n2_.out 4
       simp only [List.getElem?_toArray, List.getElem?_cons_succ, List.getElem?_cons_zero] at c14 c24
       clear n1_ n2_
       clear HB hb
       have HB := n0_
       clear n0_
       go_wp2_with fail
       refine (gram_within.calls _ _ _ _ _ HW2.out).mono ?_
       rintro e w' ⟨rfl, ⟨nd, rfl⟩⟩
       go_wp2_with fail
       refine (gram_within.calls _ _ _ _ _ HW3.out).mono ?_
       rintro e w' ⟨rfl, ⟨nd, rfl⟩⟩
       go_wp2_with fail
       refine (gram_all_calls _ _ _ _ _ _ (Kd.C_below HR3.out ?b5) hc0_3 (K2 _)).mono ?_
       case b5 => repeat (first | (with_reducible first | exact HB.out | apply below_alloc | apply pw_below_drewN | apply below_drew1) | exact HB.out)
       rw [H5.out]
       rintro e w5 ⟨rfl, hb⟩
       have n0_ := Aside0.mk (below_step (by repeat (first | (with_reducible first | exact HB.out | apply below_alloc | apply pw_below_drewN | apply below_drew1) | exact HB.out)) hb)
       clear HB hb
       have HB := n0_
       clear n0_
       go_wp2
       go_ret
       exact ⟨rfl, by repeat (first | (with_reducible first | exact HB.out | apply below_alloc | apply pw_below_drewN | apply below_drew1) | exact HB.out)⟩
theorem gram_Right.calls (a0_0 : Int) (A0_1 : Option Addr) (c0_1 : Nat) (l0_1 : List Int) (a0_2 : Int) (A0_3 : Option Addr) (c0_3 : Nat) (l0_3 : List Int) (a0_4 : Int) (r : Bool) (w : World) (hr0_1 : Kd.C (Kd.int .i64) w A0_1 l0_1.length l0_1) (hc0_1 : l0_1.length ≤ c0_1) (hr0_3 : Kd.C (Kd.int .i64) w A0_3 l0_3.length l0_3) (hc0_3 : l0_3.length ≤ c0_3) (h : gram_Right.f a0_0 l0_1 a0_2 l0_3 a0_4 = some r) :
  Calls Tryz.prog 97 #[.agg #[.int .i64 a0_0, .slice A0_1 l0_1.length c0_1, .int .i64 a0_2, .slice A0_3 l0_3.length c0_3, .int .i64 a0_4]] w fun e w' => e = .returned (.bool r) ∧ Below w.heap.size w w' := by
 obtain rfl := Option.some.inj h
 exact right_walk a0_0 A0_1 c0_1 l0_1 a0_2 A0_3 c0_3 l0_3 a0_4 w hr0_1 hc0_1 hr0_3 hc0_3
end Go.Proofs.YtiocgaekoeekgaaGreat.P
end
section
namespace Go.Proofs.YtiocgaekoeekgaaGreat.P
open Go.RowKit Go.Proofs.YtiocgaekoeekgaaGreatW.PrintWords Go.Proofs.YtiocgaekoeekgaaGreatW.PrintLast Go.Proofs.YtiocgaekoeekgaaGreatW.PrintMore
attribute [local go_sem] max2_int min2_int max_two min_two max_three min_three max_four min_four   
set_option linter.unusedVariables false
set_option linter.unusedSimpArgs false
open Go.Maps (Keyed)
abbrev Rule' := S56
def encP (p : Int × Int) : Value := .agg #[.int .i64 p.1, .int .i64 p.2]
theorem encP_inj : ∀ x y, encP x = encP y → x = y := fun x y h => by
 simp [encP] at h
 exact Prod.ext h.1 h.2
theorem laidOut : laidOutB Tryz.prog = true := by kernel_rfl
theorem pairKeyed : Keyed Tryz.prog 179 := Keyed.of_law (deep_law_laid laidOut (m := 2) (by omega) (of_decide_eq_true (by kernel_rfl)) (by kernel_rfl) (by rw [Tryz.underlying179]))
theorem sizeTypes : ∃ n, Tryz.prog.types.size = n + 1 := ⟨Tryz.prog.types.size - 1, by have h : 0 < Tryz.prog.types.size := of_decide_eq_true (by kernel_rfl); omega⟩
theorem keyType2 : Tryz.prog.keyType 179 = true := by kernel_rfl
theorem cellsOf2 : Tryz.prog.cellsOf 179 = 2 := by kernel_rfl
theorem cellsOf1 : Tryz.prog.cellsOf 3 = 1 := by kernel_rfl
theorem keyOfP {a b : Int} (ha : 0 ≤ a ∧ a < 20) (hb : 0 ≤ b ∧ b < 20) : ∃ l, keyOf Tryz.prog 179 (encP (a, b)) = some l := by
 obtain ⟨n, hn⟩ := sizeTypes
 have wa : (Lit.int .i64 a).wf = true := WalkArith.wf_i64 (by omega)
 have wb : (Lit.int .i64 b).wf = true := WalkArith.wf_i64 (by omega)
 refine ⟨.string (keyBytes [.int .i64 a, .int .i64 b]), ?_⟩
 unfold keyOf encP
 rw [Tryz.underlying179]
 simp only [keyType2, Value.formed, Tryz.underlying179, cellsOf2, Value.cells, hn]
 simp [Program.keyLits, Tryz.underlying179, Tryz.underlying3, cellsOf2, cellsOf1, wa, wb, List.range_succ]
def foundStep (m : List ((Int × Int) × Int)) (r : Rule') : List ((Int × Int) × Int) :=
 if r.f1.length = 1 ∧ 0 ≤ rd r.f1 0 ∧ rd r.f1 0 < 20 then mput m (r.f0, rd r.f1 0) ((mget m (r.f0, rd r.f1 0)).getD 0 + 1) else m
def foundL (l : List Rule') : List ((Int × Int) × Int) := l.foldl foundStep []
abbrev encM (m : List ((Int × Int) × Int)) : List ((Int × Int) × Value) := m.map fun p => (p.1, Value.int .i64 p.2)
theorem getD_encM (m : List ((Int × Int) × Int)) (x : Int × Int) : (mget (encM m) x).getD (.int .i64 0) = .int .i64 ((mget m x).getD 0) := by
 rw [mget_map]; cases mget m x <;> rfl
theorem found_bound (l : List Rule') (x : Int × Int) : 0 ≤ (mget (foundL l) x).getD 0 ∧ (mget (foundL l) x).getD 0 ≤ l.length := by
 suffices h : ∀ (l : List Rule') (m : List ((Int × Int) × Int)) (n : Nat), (∀ x, 0 ≤ (mget m x).getD 0 ∧ (mget m x).getD 0 ≤ n) → ∀ x, 0 ≤ (mget (l.foldl foundStep m) x).getD 0 ∧ (mget (l.foldl foundStep m) x).getD 0 ≤ (n + l.length : Nat) by
  have := h l [] 0 (fun x => by simp [mget]) x
  rw [Nat.zero_add] at this
  exact this
 intro l
 induction l with
 | nil => intro m n h x; exact h x
 | cons r l ih =>
  intro m n h x
  have h2 : ∀ y, 0 ≤ (mget (foundStep m r) y).getD 0 ∧ (mget (foundStep m r) y).getD 0 ≤ ((n + 1 : Nat) : Int) := by
   intro y
   unfold foundStep
   split
   ·by_cases e : y = (r.f0, rd r.f1 0)
    ·subst e
     rw [mget_mput_same]
     have := h (r.f0, rd r.f1 0)
     simp only [Option.getD_some]
     omega
    ·rw [mget_mput_other _ _ _ e]
     have := h y
     omega
   ·have := h y
    omega
  have := ih (foundStep m r) (n + 1) h2 x
  rw [List.foldl_cons, List.length_cons, show n + (l.length + 1) = n + 1 + l.length by omega]
  exact this
theorem found_snoc (l : List Rule') (k : Nat) (h : k < l.length) : foundL (l.take (k + 1)) = foundStep (foundL (l.take k)) l[k] := by
 unfold foundL
 rw [List.take_succ_eq_append_getElem h, List.foldl_append]
 rfl
theorem map_incr {P : Program} {κ : Type} [DecidableEq κ] {kt t e : TypeId} {enc : κ → Value} {w : World} {b : Nat} {m : List (κ × Value)} {z : Value} (h : MapOf P kt enc w b m) (K : Keyed P kt) (hinj : ∀ x y, enc x = enc y → x = y) (ht : P.underlying t = some (.map kt e)) (hz : ∀ w, (zeroValue e).run P w = .ok z w)
  (k : κ) (hk : ∃ l, keyOf P kt (enc k) = some l) (v v2 : Value) (hv : (mget m k).getD z = v) :
  ∃ w1 n w2, (Instr.mapEntry t (.map (some b)) (enc k)).run P w = .ok (.tuple #[v, .int .i64 n]) w1 ∧ (Instr.lookup t (.map (some b)) (enc k) false).run P w1 = .ok v w1 ∧ (Instr.entryStore t (.map (some b)) (.int .i64 n) v2).run P w1 = .ok () w2 ∧ MapOf P kt enc w2 b (mput m k v2) ∧ w.grownBy w2 (some b) ∧ w2.heap.size = w.heap.size := by
 obtain ⟨w1, n, h1, _, _, ⟨m1, hm1, hg1⟩, h4⟩ := h.entry K hinj ht hz k hk
 obtain ⟨w2, h5, h6, h7, h8⟩ := h4 v2
 have h9 := hm1.lookup K hinj ht (hz w1) k hk false
 rw [hg1, hv] at h9
 exact ⟨w1, n, w2, by rw [h1, hv], h9, h5, h6, h7, h8⟩
def unitsB (l0 : List Rule') : Bool := l0.all (fun r => decide (0 ≤ r.f0 ∧ r.f0 < 20)) && decide (l0.length ≤ 1000000000000)
def unitsP (l0 : List Rule') : List (List Int) := (List.range 20).map fun (s : Nat) => ((List.range 20).map fun (x : Nat) => (x : Int)).filter fun x => decide (0 < (mget (foundL l0) ((s : Int), x)).getD 0)
def rowUpto (m : List ((Int × Int) × Int)) (s n : Nat) : List Int := ((List.range n).map fun (x : Nat) => (x : Int)).filter fun x => decide (0 < (mget m ((s : Int), x)).getD 0)
theorem rowUpto_succ (m : List ((Int × Int) × Int)) (s n : Nat) : rowUpto m s (n + 1) = rowUpto m s n ++ if 0 < (mget m ((s : Int), (n : Int))).getD 0 then [(n : Int)] else [] := by
 unfold rowUpto
 rw [List.range_succ, List.map_append, List.filter_append]
 congr 1
 by_cases h : 0 < (mget m ((s : Int), (n : Int))).getD 0 <;> simp [h]
theorem rowUpto_len (m : List ((Int × Int) × Int)) (s n : Nat) : (rowUpto m s n).length ≤ n := by
 unfold rowUpto
 have := List.length_filter_le (fun x => decide (0 < (mget m ((s : Int), x)).getD 0)) ((List.range n).map fun (x : Nat) => (x : Int))
 simpa using this
structure URows (base g : Nat) (row : Nat → List Int) (i : Nat) (W : World) (vals : List Value) (f : Nat → Nat) : Prop where
 len : vals.length = 20
 blk : W.heap[g]? = some (.cells vals.toArray 35 (0, 0))
 ge : base ≤ g
 done : ∀ j, j < i → ∃ v, vals[j]? = some v ∧ Kd.R (Kd.int .i64) 3 W base (fun k => k ≠ g ∧ f k = j) v (row j)
 rest : ∀ j, i ≤ j → j < 20 → vals[j]? = some (.slice none 0 0)
structure UCur (base g N : Nat) (row : Nat → List Int) (i : Nat) (W : World) (vals : List Value) (f : Nat → Nat) (u : Value) (cur : List Int) : Prop where
 len : vals.length = 20
 blk : W.heap[g]? = some (.cells vals.toArray 35 (0, 0))
 ge : base ≤ g
 done : ∀ j, j < i → ∃ v, vals[j]? = some v ∧ Kd.R (Kd.int .i64) 3 W base (fun k => (k ≠ g ∧ f k = j) ∧ k < N) v (row j)
 rest : ∀ j, i < j → j < 20 → vals[j]? = some (.slice none 0 0)
 at_ : vals[i]? = some u
 cur : Kd.R (Kd.int .i64) 3 W base (fun k => k ≠ g ∧ N ≤ k) u cur
 gN : g < N
 size : N ≤ W.heap.size
theorem URows.start {base g : Nat} {row : Nat → List Int} {i : Nat} {W : World} {vals : List Value} {f : Nat → Nat} (h : URows base g row i W vals f) (hi : i < 20) : UCur base g W.heap.size row i W vals f (.slice none 0 0) [] :=
 ⟨h.len, h.blk, h.ge, fun j hj => by obtain ⟨v, h1, h2⟩ := h.done j hj; exact ⟨v, h1, Kd.R_mono (Kd.R_bound h2) (fun k hk => ⟨hk.1, hk.2.2.1⟩)⟩, fun j hj hj2 => h.rest j (by omega) hj2, h.rest i (Nat.le_refl _) hi, Kd.R_nil _ _ _ _ _, blk_lt h.blk, Nat.le_refl _⟩
theorem UCur.below {base g N : Nat} {row : Nat → List Int} {i : Nat} {W W1 : World} {vals : List Value} {f : Nat → Nat} {u : Value} {cur : List Int} (h : UCur base g N row i W vals f u cur) (hb : Below W.heap.size W W1) : UCur base g N row i W1 vals f u cur :=
 ⟨h.len, blk_below h.blk hb, h.ge, fun j hj => by obtain ⟨v, h1, h2⟩ := h.done j hj; exact ⟨v, h1, Kd.R_below h2 hb⟩, h.rest, h.at_, Kd.R_below h.cur hb, h.gN, Nat.le_trans h.size hb.size⟩
theorem UCur.put {base g N : Nat} {row : Nat → List Int} {i : Nat} {W W1 : World} {vals : List Value} {f : Nat → Nat} {u u1 : Value} {cur cur1 : List Int} (h : UCur base g N row i W vals f u cur) (hg : W.grownBy W1 u.ownBlock)
  (hr : Kd.R (Kd.int .i64) 3 W1 base (fun k => k ≠ g ∧ N ≤ k) u1 cur1) : UCur base g N row i (W1.setCell ⟨g, i, none⟩ u1) (vals.set i u1) f u1 cur1 := by
 have hi : i < vals.length := (List.getElem?_eq_some_iff.1 h.at_).1
 have hne : ∀ k, (k ≠ g ∧ N ≤ k) → k ≠ (⟨g, i, none⟩ : Addr).block := fun k hk => hk.1
 have hub : ∀ k, k < N → some k ≠ u.ownBlock := fun k hk e => by have := (h.cur.1 k e.symm).2; omega
 have hb1 : W1.heap[g]? = some (.cells vals.toArray 35 (0, 0)) := blk_grown h.blk hg (hub g h.gN)
 refine ⟨by rw [List.length_set]; exact h.len, ?_, h.ge, fun j hj => ?_, fun j hj hj2 => ?_, by rw [List.getElem?_set_self hi], Kd.R_far hr hne u1, h.gN, Nat.le_trans h.size (by simp [World.setCell]; exact hg.size)⟩
 ·refine blk_put hb1 i u1 ?_
  simp
 ·obtain ⟨v, h1, h2⟩ := h.done j hj
  refine ⟨v, by rw [List.getElem?_set_ne (by omega)]; exact h1, Kd.R_far (Kd.R_grown h2 hg (fun k hk => hub k hk.2)) (fun k hk => hk.1.1) u1⟩
 ·rw [List.getElem?_set_ne (by omega)]
  exact h.rest j hj hj2
theorem UCur.finish {base g N : Nat} {row : Nat → List Int} {i : Nat} {W : World} {vals : List Value} {f : Nat → Nat} {u : Value} (h : UCur base g N row i W vals f u (row i)) : URows base g row (i + 1) W vals (fun k => if k < N then f k else i) := by
 refine ⟨h.len, h.blk, h.ge, fun j hj => ?_, fun j hj hj2 => h.rest j (by omega) hj2⟩
 by_cases e : j = i
 ·subst e
  exact ⟨u, h.at_, Kd.R_mono h.cur (fun k hk => ⟨hk.1, by rw [if_neg (by omega)]⟩)⟩
 ·obtain ⟨v, h1, h2⟩ := h.done j (by omega)
  exact ⟨v, h1, Kd.R_mono h2 (fun k hk => ⟨hk.1.1, by rw [if_pos hk.2]; exact hk.1.2⟩)⟩
theorem URows.toS {base g : Nat} {row : Nat → List Int} {W : World} {vals : List Value} {f : Nat → Nat} (h : URows base g row 20 W vals f) :
  Kd.S (Kd.slice 3 (Kd.int .i64)) 35 W base (fun _ => True) (.slice (some ⟨g, 0, none⟩) 20 20) ((List.range 20).map row) := by
 refine ⟨f, fun _ _ => trivial, vals, ⟨?_, .inr ⟨g, 20, vals.toArray, rfl, h.ge, h.blk, by simp, by unfold maxLen; omega, by simp [h.len, Kd.tag, Kd.slice], ?_⟩⟩, ?_, fun j p hj => ?_⟩
 ·simp [h.len, Kd.tag, Kd.slice]
 ·have : vals.take 20 = vals := by rw [← h.len]; exact List.take_length
  simpa [Kd.tag, Kd.slice] using this
 ·simp [h.len, Kd.tag, Kd.slice]
 ·obtain ⟨x, n⟩ := p
  rw [List.getElem?_zipIdx] at hj
  obtain ⟨y, hy, hp⟩ := Option.map_eq_some_iff.1 hj
  simp only [Nat.zero_add, Prod.mk.injEq] at hp
  obtain ⟨rfl, rfl⟩ := hp
  have hj20 : j < 20 := by have := (List.getElem?_eq_some_iff.1 hy).1; simpa using this
  rw [List.getElem?_map, List.getElem?_range hj20] at hy
  have hy2 : row j = y := by simpa using hy
  obtain ⟨v, h1, h2⟩ := h.done j hj20
  have h3 : (vals.drop (j * 1)).take 1 = [v] := by
   obtain ⟨hl, hv⟩ := List.getElem?_eq_some_iff.1 h1
   rw [Nat.mul_one, List.drop_eq_getElem_cons hl, hv]; rfl
  show ((Kd.tag f (Kd.slice 3 (Kd.int .i64))).M W base _ (y, j) ((vals.drop (j * 1)).take 1))
  rw [h3]
  refine ⟨v, rfl, ?_⟩
  rw [← hy2]
  refine Kd.R_mono h2 (fun k hk => ⟨⟨trivial, ?_⟩, hk.2⟩)
  simp [Value.ownBlock]
  exact hk.1
set_option maxHeartbeats 4000000 in
set_option maxRecDepth 100000 in
theorem units_walk (A0 : Option Addr) (c0 : Nat) (l0 : List Rule') (w : World) (hr0 : Kd.C k56 w A0 l0.length l0) (hc0 : l0.length ≤ c0) (hu : unitsB l0 = true) :
  Calls Tryz.prog 98 #[.slice A0 l0.length c0] w fun e w' => ∃ v0_ : Value, e = .returned (v0_) ∧ Kd.S (Kd.slice 3 (Kd.int .i64)) 35 w' w.heap.size (fun _ => True) v0_ (unitsP l0) ∧ Below w.heap.size w w' := by
 have hmm := @run_makeMap Tryz.prog
 have hu2 := hu
 simp only [unitsB, Bool.and_eq_true, List.all_eq_true, decide_eq_true_eq] at hu2
 obtain ⟨hu3, hlen⟩ := hu2
 have HU := Aside0.mk hu3
 have HR := Aside0.mk hr0
 have HC := Aside0.mk hc0
 clear hr0 hc0 hu hu3
 go_enter Tryz.func98, Tryz.ntmps98
 go_wp2
 go_loopg [12] l0.length (fun gg s12 wr => ∃ kk : Nat, kk ≤ l0.length ∧ l0.length - kk ≤ gg ∧ s12 = .int .i64 kk ∧ Aside0 (MapOf Tryz.prog 179 encP wr w.heap.size (encM (foundL (l0.take kk)))) ∧ Aside0 (Below w.heap.size w wr) ∧ Aside0 (w.heap.size < wr.heap.size))
 case atStart => exact ⟨0, Nat.zero_le _, by omega, rfl, ⟨MapOf.made _ _ _ _⟩, ⟨below_alloc (Below.refl _ _) _⟩, ⟨by simp⟩⟩
 case round =>
  obtain ⟨kk, hkk, hg, rfl, HM, HB, HS⟩ := hrel
  by_cases hlt : kk < l0.length
  ·have hltz : (kk : Int) < (l0.length : Int) := by omega
   obtain ⟨ad, A1, c1, A3, c3, hA, h0, h1, h2, h3, h4, l1, g1, l3, g3⟩ := at_T56 (Kd.C_below HR.out HB.out) kk (by omega) hltz
   have hx : rd_T56 l0 kk = l0[kk] := by simp [rd_T56, List.getD_eq_getElem?_getD, List.getElem?_eq_getElem hlt]
   have hlhs := HU.out l0[kk] (List.getElem_mem hlt)
   rw [← hx] at hlhs
   have hsn := found_snoc l0 kk hlt
   rw [← hx] at hsn
   generalize rd_T56 l0 kk = y at *
   rw [Int.toNat_natCast] at h0 h1 h2 h3 h4
   subst hA
   clear hx l3 g3
   have HSN := Aside0.mk hsn
   clear hsn
   by_cases hone : y.f1.length = 1
   ·obtain ⟨ad1, hA1, hcell⟩ := Kd.at_int g1 0 (by omega) (by omega)
    have hcell' : wr.cell? ad1 = some (.int .i64 (rd y.f1 0)) := hcell
    subst hA1
    have hlx : wr.heap.size > ad1.block := World.block_lt_of_cell? wr _ hcell'
    have hcell2 : (wr.alloc (.cells #[.int .i64 y.f0, .slice (some ad1) 1 c1, .int .i64 y.f2.f0, .slice A3 y.f2.f1.length c3, .int .i64 y.f3] 56)).cell? ad1 = some (.int .i64 (rd y.f1 0)) := (World.cell?_alloc_lt _ _ _ hlx).trans hcell'
    rw [hone] at h1
    generalize hrd : rd y.f1 0 = x at *
    have HRD := Aside0.mk hrd
    clear hrd
    have hsym := Aside0.mk (symbol_some x)
    clear hcell g1 hcell' hlx
    have HM1 := Aside0.mk (HM.out.alloc (.cells #[.int .i64 y.f0, .slice (some ad1) 1 c1, .int .i64 y.f2.f0, .slice A3 y.f2.f1.length c3, .int .i64 y.f3] 56))
    have HB1 := Aside0.mk (below_alloc HB.out (.cells #[.int .i64 y.f0, .slice (some ad1) 1 c1, .int .i64 y.f2.f0, .slice A3 y.f2.f1.length c3, .int .i64 y.f3] 56))
    have HBK := Aside0.mk (blk_new wr (.cells #[.int .i64 y.f0, .slice (some ad1) 1 c1, .int .i64 y.f2.f0, .slice A3 y.f2.f1.length c3, .int .i64 y.f3] 56))
    have HS1 : Aside0 (w.heap.size < (wr.alloc (.cells #[.int .i64 y.f0, .slice (some ad1) 1 c1, .int .i64 y.f2.f0, .slice A3 y.f2.f1.length c3, .int .i64 y.f3] 56)).heap.size) := ⟨Nat.lt_of_lt_of_le HS.out (by simp)⟩
    cases hsx : symbolB x with
    | true =>
     rw [hsx] at hsym
     go_wp2_with fail
     refine (gram_symbol.calls _ _ _ hsym.out).mono ?_
     rintro e w' ⟨rfl, ⟨nd, rfl⟩⟩
     clear HM HB HS h0 h1 h2 h3 h4
     generalize hW : (wr.alloc (.cells #[.int .i64 y.f0, .slice (some ad1) 1 c1, .int .i64 y.f2.f0, .slice A3 y.f2.f1.length c3, .int .i64 y.f3] 56)).drewN nd = W1
     have HM2 : Aside0 (MapOf Tryz.prog 179 encP W1 w.heap.size (encM (foundL (l0.take kk)))) := ⟨by rw [← hW]; exact HM1.out⟩
     have HB2 : Aside0 (Below w.heap.size w W1) := ⟨by rw [← hW]; exact pw_below_drewN HB1.out _⟩
     have HBK2 : Aside0 (W1.heap[wr.heap.size]? = some (.cells #[.int .i64 y.f0, .slice (some ad1) 1 c1, .int .i64 y.f2.f0, .slice A3 y.f2.f1.length c3, .int .i64 y.f3] 56 (0, 0))) := ⟨by rw [← hW]; exact blk_drewN HBK.out _⟩
     have HS2 : Aside0 (w.heap.size < W1.heap.size) := ⟨by rw [← hW]; exact HS1.out⟩
     have k2 : W1.cell? ad1 = some (.int .i64 x) := by rw [← hW]; exact hcell2
     clear hcell2 HM1 HB1 HBK HS1 hW
     have d0 := blk_cell HBK2.out 0
     have d1 := blk_cell HBK2.out 1
     simp only [List.getElem?_toArray, List.getElem?_cons_succ, List.getElem?_cons_zero] at d0 d1
     have hsb : 0 ≤ x ∧ x < 20 := by simpa [symbolB] using hsx
     obtain ⟨hx0, hx1⟩ := hsb
     obtain ⟨hy0, hy1⟩ := hlhs
     have hkey := keyOfP (a := y.f0) (b := x) ⟨hy0, hy1⟩ ⟨hx0, hx1⟩
     have hb := found_bound (l0.take kk) (y.f0, x)
     obtain ⟨hb0, hb1⟩ := hb
     have hb2 : (l0.take kk).length ≤ kk := List.length_take_le _ _
     have hgv := getD_encM (foundL (l0.take kk)) (y.f0, x)
     have hmp := mput_map (Value.int .i64) (y.f0, x) ((mget (foundL (l0.take kk)) (y.f0, x)).getD 0 + 1) (foundL (l0.take kk))
     have hstep : foundStep (foundL (l0.take kk)) y = mput (foundL (l0.take kk)) (y.f0, x) ((mget (foundL (l0.take kk)) (y.f0, x)).getD 0 + 1) := by
      unfold foundStep
      rw [if_pos ⟨hone, by rw [HRD.out]; exact ⟨hx0, hx1⟩⟩, HRD.out]
     generalize (mget (foundL (l0.take kk)) (y.f0, x)).getD 0 = v at *
     have hv1 : v ≤ 1000000000000 := by omega
     have hlk := (HM2.out.drew).lookup pairKeyed encP_inj Tryz.underlying178 (zero_int W1.drew) (y.f0, x) hkey false
     rw [hgv] at hlk
     have hlk2 : (Instr.lookup 178 (.map (some w.heap.size)) (.agg #[.int .i64 y.f0, .int .i64 x]) false).run Tryz.prog W1.drew = .ok (.int .i64 v) W1.drew := hlk
     obtain ⟨w3, n3, w4, hE1, hL3, hE2, hm4, hg4, hz4⟩ := map_incr (HM2.out.drew) pairKeyed encP_inj Tryz.underlying178 zero_int (y.f0, x) hkey (.int .i64 v) (.int .i64 (v + 1)) hgv
     have hE3 : (Instr.mapEntry 178 (.map (some w.heap.size)) (.agg #[.int .i64 y.f0, .int .i64 x])).run Tryz.prog W1.drew = .ok (.tuple #[.int .i64 v, .int .i64 n3]) w3 := hE1
     rw [hmp, ← hstep] at hm4
     have hL4 : (Instr.lookup 178 (.map (some w.heap.size)) (.agg #[.int .i64 y.f0, .int .i64 x]) false).run Tryz.prog w3 = .ok (.int .i64 v) w3 := hL3
     have hwr : IntKind.i64.wrap (v + 1) = v + 1 := IntWalk.i64_in _ (by omega)
     have HM4 := Aside0.mk hm4
     have HG4 := Aside0.mk hg4
     have HZ4 := Aside0.mk hz4
     clear hlk hE1 hL3 hm4 hg4 hz4 hmp hstep hgv hb2
     go_wp2_with fail
     go_region
     all_goals
      go_wp2
      go_roundg (l0.length - (kk + 1))
      case measure => omega
      case rel =>
       exact ⟨kk + 1, by omega, by omega, by go_num, ⟨by rw [HSN.out]; exact HM4.out⟩, ⟨(HB2.out.drew).grown HG4.out HB2.out.size (fun j e => by cases e; exact Nat.le_refl _)⟩, ⟨by rw [HZ4.out]; exact HS2.out⟩⟩
    | false =>
     rw [hsx] at hsym
     go_wp2_with fail
     refine (gram_symbol.calls _ _ _ hsym.out).mono ?_
     rintro e w' ⟨rfl, ⟨nd, rfl⟩⟩
     go_wp2
     go_roundg (l0.length - (kk + 1))
     case measure => omega
     case rel =>
      refine ⟨kk + 1, by omega, by omega, by go_num, ⟨?_⟩, ⟨pw_below_drewN HB1.out _⟩, ⟨HS1.out⟩⟩
      have hst : foundStep (foundL (l0.take kk)) y = foundL (l0.take kk) := by
       unfold foundStep
       rw [if_neg (fun h => by rw [HRD.out] at h; simp [symbolB, h.2.1] at hsx; omega)]
      rw [HSN.out, hst]
      exact HM1.out.drewN _
   ·have ht : ((y.f1.length : Int) == 1) = false := beq_eq_false_iff_ne.2 (by omega)
    have hst : foundStep (foundL (l0.take kk)) y = foundL (l0.take kk) := by
     unfold foundStep
     rw [if_neg (fun h => hone h.1)]
    have HST := Aside0.mk hst
    clear hst
    go_wp2
    go_roundg (l0.length - (kk + 1))
    case measure => omega
    case rel => exact ⟨kk + 1, by omega, by omega, by go_num, ⟨by rw [HSN.out, HST.out]; exact HM.out.alloc _⟩, ⟨below_alloc HB.out _⟩, ⟨Nat.lt_of_lt_of_le HS.out (by simp)⟩⟩
  ·have hltz : ¬ (kk : Int) < (l0.length : Int) := by omega
   have hkl : kk = l0.length := by omega
   subst hkl
   have HM0 : Aside0 (MapOf Tryz.prog 179 encP wr w.heap.size (encM (foundL l0))) := ⟨by have := HM.out; rwa [List.take_length] at this⟩
   clear HM
   have HFB := Aside0.mk (found_bound l0)
   have HUP := Aside0.mk (show (List.range 20).map (fun j => rowUpto (foundL l0) j 20) = unitsP l0 from rfl)
   generalize foundL l0 = m at *
   have hmk : ∀ w, (Instr.makeSlice 111 (.int .i64 20) (.int .i64 20)).run Tryz.prog w = .ok (.slice (some ⟨w.heap.size, 0, none⟩) 20 20) (w.alloc (.cells (List.replicate 20 (Value.slice none 0 0)).toArray 35)) := fun _ => by kernel_rfl
   have HU0 : Aside0 (∃ vals f, URows w.heap.size wr.heap.size (fun j => rowUpto m j 20) 0 (wr.alloc (.cells (List.replicate 20 (Value.slice none 0 0)).toArray 35)) vals f) :=
    ⟨List.replicate 20 (.slice none 0 0), fun _ => 0, ⟨by simp, blk_new _ _, Nat.le_of_lt HS.out, fun j hj => absurd hj (Nat.not_lt_zero _), fun j _ hj => by rw [List.getElem?_replicate, if_pos hj]⟩⟩
   have HM1 := Aside0.mk (HM0.out.alloc (.cells (List.replicate 20 (Value.slice none 0 0)).toArray 35))
   have HB1 := Aside0.mk (below_alloc HB.out (.cells (List.replicate 20 (Value.slice none 0 0)).toArray 35))
   clear HM0 HB HS
   go_wp2
   generalize wr.heap.size = g at *
   go_loopg [43] 20 (fun gg s43 W => ∃ i : Nat, i ≤ 20 ∧ 20 - i ≤ gg ∧ s43 = .int .i64 i ∧ Aside0 (∃ vals f, URows w.heap.size g (fun j => rowUpto m j 20) i W vals f) ∧ Aside0 (MapOf Tryz.prog 179 encP W w.heap.size (encM m)) ∧ Aside0 (Below w.heap.size w W))
   case atStart => exact ⟨0, by omega, by omega, rfl, HU0, HM1, HB1⟩
   case round =>
    clear HU0 HM1 HB1
    obtain ⟨i, hi, hgi, rfl, HU1, HM1, HB1⟩ := hrel
    by_cases hi20 : i < 20
    ·have hi20z : (i : Int) < 20 := by omega
     obtain ⟨vals, f, hU1⟩ := HU1.out
     have HC1 := Aside0.mk (hU1.start hi20)
     clear HU1 hU1
     generalize wr.heap.size = N at HC1
     go_wp2
     go_loopg [46] 20 (fun gg2 s46 W2 => ∃ x : Nat, x ≤ 20 ∧ 20 - x ≤ gg2 ∧ s46 = .int .i64 x ∧ Aside0 (∃ vals f u, UCur w.heap.size g N (fun j => rowUpto m j 20) i W2 vals f u (rowUpto m i x)) ∧ Aside0 (MapOf Tryz.prog 179 encP W2 w.heap.size (encM m)) ∧ Aside0 (Below w.heap.size w W2))
     case atStart => exact ⟨0, by omega, by omega, rfl, ⟨_, _, _, HC1.out⟩, HM1, HB1⟩
     case round =>
      clear HC1 HM1 HB1
      obtain ⟨x, hx, hgx, rfl, HC2, HM2, HB2⟩ := hrel
      obtain ⟨vals, f, u, hC2⟩ := HC2.out
      have HC3 := Aside0.mk hC2
      clear HC2 hC2
      have hc : wr.cell? ⟨g, i, none⟩ = some u := (blk_cell HC3.out.blk i).trans (by rw [List.getElem?_toArray]; exact HC3.out.at_)
      have hfz := blk_frozen HC3.out.blk i
      have hsu := rowUpto_succ m i x
      have hrl := rowUpto_len m i x
      obtain ⟨A4, c4, rfl⟩ := Kd.R_slice HC3.out.cur
      by_cases hx20 : x < 20
      ·have hx20z : (x : Int) < 20 := by omega
       have hkey := keyOfP (a := (i : Int)) (b := (x : Int)) ⟨by omega, by omega⟩ ⟨by omega, by omega⟩
       have hgv := getD_encM m ((i : Int), (x : Int))
       generalize (mget m ((i : Int), (x : Int))).getD 0 = v at hgv hsu
       have HGV := Aside0.mk hgv
       have HSU := Aside0.mk hsu
       clear hgv hsu
       by_cases hv : 0 < v
       ·have hub : ∀ k, k < N → some k ≠ (Value.slice A4 (rowUpto m i x).length c4).ownBlock := fun k hk e => by have := (HC3.out.cur.1 k e.symm).2; omega
        have hgn := HC3.out.gN
        have hil : i < vals.toArray.size := by have := HC3.out.len; simp; omega
        go_wp2_with (first
         | (at_lookup; refine wpList_lookup_map rfl (.tmp 49) (.tmp 52) 178 3 rfl pairKeyed encP_inj Tryz.underlying178 zero_int rfl HM2.out ((i : Int), (x : Int)) rfl hkey (.int .i64 v) HGV.out ?_)
         | (at_builtin; refine Kd.R_append (Kd.int .i64) (w0 := w) w.heap.size rfl (.tmp 60) (.tmp 62) 35 3 (.int .i64 0) 8 rfl Tryz.underlying35 info3 rfl (by decide) (by omega) (.slice A4 (rowUpto m i x).length c4) (rowUpto m i x) (x : Int) [.int .i64 x] (fun k => k ≠ g ∧ N ≤ k) (fun _ => False) rfl rfl rfl (fun _ hk => hk.elim) (fun k hk => ⟨fun e => by have := HC3.out.gN; have := HC3.out.size; omega, Nat.le_trans HC3.out.size hk⟩) HC3.out.cur HB2.out HB2.out.size (by omega) ?_; intro v1 w1 ho hb hgr hat; have ho' : Kd.R (Kd.int .i64) 3 w1 w.heap.size (fun k => k ≠ g ∧ N ≤ k) v1 (rowUpto m i x ++ [(x : Int)]) := ho; have HR1 := Aside0.mk ho'; have HB3 := Aside0.mk hb; have HG1 := Aside0.mk hgr; obtain ⟨A5, c5, rfl⟩ := Kd.R_slice ho'; clear ho ho' hb hgr hat)
         | (refine gate_ (.store 35 (.tmp 64) (.tmp 63)) rfl ?_; have hblk1 := Aside0.mk (blk_grown HC3.out.blk HG1.out (hub g hgn)); go_loud (refine store_block rfl rfl 35 (.tmp 64) (.tmp 63) rfl (.slice A5 ((rowUpto m i x).length + 1) c5) rfl rfl rfl rfl rfl hblk1.out hil ?_); intro w2 hw2)
         | fail)
        go_roundg (20 - (x + 1))
        case measure => omega
        case rel =>
         have e5 : (Value.slice A5 ((rowUpto m i x).length + 1) c5) = .slice A5 (rowUpto m i x ++ [(x : Int)]).length c5 := by rw [List.length_append]; rfl
         rw [e5] at hw2
         subst hw2
         refine ⟨x + 1, by omega, by omega, by go_num, ⟨vals.set i (.slice A5 (rowUpto m i x ++ [(x : Int)]).length c5), f, .slice A5 (rowUpto m i x ++ [(x : Int)]).length c5, ?_⟩, ⟨?_⟩, ⟨?_⟩⟩
         ·rw [HSU.out, if_pos hv]
          have h9 := HC3.out.put HG1.out HR1.out
          rw [← e5] at h9 ⊢
          exact h9
         ·have hbN : w.heap.size < N := Nat.lt_of_le_of_lt HC3.out.ge HC3.out.gN
          refine (HM2.out.grown HG1.out (hub _ hbN)).setCell _ (fun e => ?_) _
          exact HM2.out.not_cells HC3.out.blk e
         ·exact HB3.out.setCell HC3.out.ge _
       ·have hgt : ¬ (v > 0) := by omega
        go_wp2_with (first
         | (at_lookup; refine wpList_lookup_map rfl (.tmp 49) (.tmp 52) 178 3 rfl pairKeyed encP_inj Tryz.underlying178 zero_int rfl HM2.out ((i : Int), (x : Int)) rfl hkey (.int .i64 v) HGV.out ?_)
         | fail)
        go_roundg (20 - (x + 1))
        case measure => omega
        case rel =>
         refine ⟨x + 1, by omega, by omega, by go_num, ⟨vals, f, .slice A4 (rowUpto m i x).length c4, ?_⟩, HM2, HB2⟩
         rw [HSU.out, if_neg (by omega), List.append_nil]
         exact HC3.out
      ·have hx20z : ¬ (x : Int) < 20 := by omega
       have hxe : x = 20 := by omega
       subst hxe
       obtain ⟨A6, c6, e6, hle6, hC6⟩ := Kd.R_reads HC3.out.cur
       injection e6 with e7 e8 e9
       subst e7 e9
       have HC6 := Aside0.mk hC6
       have HL6 := Aside0.mk hle6
       clear hC6 hle6 e8
       have hil : i < vals.toArray.size := by have := HC3.out.len; simp; omega
       go_wp2_with fail
       refine (slices_Clone_int_int.calls _ _ (rowUpto m i 20) (rowUpto m i 20) _ HC6.out HL6.out (if_pos (by omega))).mono ?_
       rintro e w1 ⟨v1, rfl, hR1, hb1⟩
       have HR1 := Aside0.mk (Kd.R_lower (Kd.R_mono (Kd.R_bound hR1) (ok' := fun k => k ≠ g ∧ N ≤ k) (fun k hk => ⟨fun e => by have := HC3.out.gN; have := HC3.out.size; omega, Nat.le_trans HC3.out.size hk.2.1⟩)) HB2.out.size)
       have HM1 := Aside0.mk (HM2.out.below hb1)
       have HB1 := Aside0.mk (below_step HB2.out hb1)
       have HC1 := Aside0.mk (HC3.out.below hb1)
       have hblk1 := Aside0.mk HC1.out.blk
       obtain ⟨A7, c7, rfl⟩ := Kd.R_slice hR1
       clear hR1 hb1 hc hfz HC3 HM2 HB2 HC6 HL6
       generalize hrn : (rowUpto m i 20).length = n7 at *
       go_wp2_with (first
         | (refine gate_ (.store 35 (.tmp 73) (.tmp 72)) rfl ?_; refine store_block rfl rfl 35 (.tmp 73) (.tmp 72) rfl (.slice A7 n7 c7) rfl rfl rfl rfl rfl hblk1.out hil ?_; intro w2 hw2)
         | fail)
       go_roundg (20 - (i + 1))
       case measure => omega
       case rel =>
        subst hw2
        refine ⟨i + 1, by omega, by omega, by go_num, ⟨vals.set i (.slice A7 n7 c7), _, (HC1.out.put (World.grownBy.refl _ _) HR1.out).finish⟩, ⟨HM1.out.setCell _ (HM1.out.not_cells hblk1.out) _⟩, ⟨HB1.out.setCell HC1.out.ge _⟩⟩
    ·have hi20z : ¬ (i : Int) < 20 := by omega
     have hie : i = 20 := by omega
     subst hie
     obtain ⟨vals, f, hU1⟩ := HU1.out
     have HV := Aside0.mk hU1.toS
     clear hU1 HU1
     go_wp2
     go_ret
     have h9 := HV.out
     rw [HUP.out] at h9
     exact ⟨_, rfl, h9, HB1.out⟩
end Go.Proofs.YtiocgaekoeekgaaGreat.P
end
section
namespace Go.Proofs.YtiocgaekoeekgaaGreat.P
open Go.RowKit Go.Proofs.YtiocgaekoeekgaaGreatW.PrintWords Go.Proofs.YtiocgaekoeekgaaGreatW.PrintLast Go.Proofs.YtiocgaekoeekgaaGreatW.PrintMore
attribute [local go_sem] max2_int min2_int max_two min_two max_three min_three max_four min_four   
set_option linter.unusedVariables false
set_option linter.unusedSimpArgs false
inductive Reach (next : Int → List Int) (l0 : List Int) : Int → Prop
 | base {x : Int} : x ∈ l0 → Reach next l0 x
 | step {x y : Int} : Reach next l0 x → y ∈ next x → Reach next l0 y
def inSym (x : Int) : Prop := 0 ≤ x ∧ x < 20
theorem Reach.sym {next : Int → List Int} {l0 : List Int} (hd : ∀ x, inSym x → ∀ y ∈ next x, inSym y) (hl : ∀ x ∈ l0, inSym x) {x : Int} (h : Reach next l0 x) : inSym x := by
 induction h with
 | base h => exact hl _ h
 | step _ h ih => exact hd _ ih _ h
def symbols : List Int := (List.range 20).map fun (x : Nat) => (x : Int)
theorem mem_symbols (x : Int) : x ∈ symbols ↔ inSym x := by
 unfold symbols inSym
 rw [List.mem_map]
 constructor
 ·rintro ⟨n, hn, rfl⟩
  rw [List.mem_range] at hn
  omega
 ·rintro ⟨h0, h1⟩
  exact ⟨x.toNat, by rw [List.mem_range]; omega, by omega⟩
theorem symbols_sorted : symbols.Pairwise (· < ·) := by decide
theorem symbols_nodup : symbols.Nodup := by decide
open Classical in
noncomputable def reachL (next : Int → List Int) (l0 : List Int) : List Int := symbols.filter fun y => decide (Reach next l0 y)
theorem mem_reachL {next : Int → List Int} {l0 : List Int} (hd : ∀ x, inSym x → ∀ y ∈ next x, inSym y) (hl : ∀ x ∈ l0, inSym x) (y : Int) : y ∈ reachL next l0 ↔ Reach next l0 y := by
 unfold reachL
 rw [List.mem_filter, mem_symbols]
 simp only [decide_eq_true_eq]
 exact ⟨fun h => h.2, fun h => ⟨h.sym hd hl, h⟩⟩
theorem length_of_sub {l : List Int} (hn : l.Nodup) (hs : ∀ x ∈ l, inSym x) : l.length ≤ 20 := by
 have hp : l.Perm (symbols.filter fun x => decide (x ∈ l)) := (List.perm_ext_iff_of_nodup hn (symbols_nodup.filter _)).2 fun x => by
  rw [List.mem_filter, mem_symbols]
  simp only [decide_eq_true_eq]
  exact ⟨fun h => ⟨hs x h, h⟩, fun h => h.2⟩
 rw [hp.length_eq]
 exact List.length_filter_le _ symbols
theorem from_some_aux (next : Int → List Int) (B : Nat) (hB : B ≤ 1000000) (hlen : ∀ x, inSym x → (next x).length ≤ B) (hd : ∀ x, inSym x → ∀ y ∈ next x, inSym y) (l0 : List Int) (hl : ∀ x ∈ l0, inSym x) :
  ∀ (M : Nat) (m : List (Int × Int)) (q : List Int) (V : Nat), (∀ x ∈ q, Reach next l0 x) → (∀ x ∈ m.map (·.1), Reach next l0 x) → (m.map (·.1)).Nodup →
   (∀ x, 0 ≤ (mget m x).getD 0 ∧ (mget m x).getD 0 ≤ V) → (∀ x ∈ m.map (·.1), 1 ≤ (mget m x).getD 0) → (∀ x ∈ m.map (·.1), ∀ y ∈ next x, y ∈ q ∨ y ∈ m.map (·.1)) → (∀ x ∈ l0, x ∈ q ∨ x ∈ m.map (·.1)) →
   q.length + B * (20 - m.length) ≤ M → M + V ≤ 100000000 →
   ∃ k r, fromF next k m q = some r ∧ (∀ y, y ∈ r.map (·.1) ↔ Reach next l0 y) ∧ (r.map (·.1)).Nodup := by
 intro M
 induction M with
 | zero =>
  intro m q V hq hm hn hv hp hc h0 hM hV
  have hqe : q = [] := List.length_eq_zero_iff.1 (by omega)
  subst hqe
  have hml : m.length ≤ 20 := by have := length_of_sub hn (fun x hx => (hm x hx).sym hd hl); simpa using this
  refine ⟨1, m, by simp only [fromF]; rw [if_pos (by omega)], fun y => ⟨hm y, fun h => ?_⟩, hn⟩
  induction h with
  | base h => exact (h0 _ h).elim (fun h => by cases h) id
  | step _ h ih => exact (hc _ ih _ h).elim (fun h => by cases h) id
 | succ M ihM =>
  intro m q V hq hm hn hv hp hc h0 hM hV
  have hml : m.length ≤ 20 := by have := length_of_sub hn (fun x hx => (hm x hx).sym hd hl); simpa using this
  cases q with
  | nil =>
   refine ⟨1, m, by simp only [fromF]; rw [if_pos (by omega)], fun y => ⟨hm y, fun h => ?_⟩, hn⟩
   induction h with
   | base h => exact (h0 _ h).elim (fun h => by cases h) id
   | step _ h ih => exact (hc _ ih _ h).elim (fun h => by cases h) id
  | cons x q =>
   have hrx := hq x List.mem_cons_self
   have hsx := hrx.sym hd hl
   have hlx := hlen x hsx
   have hvx := hv x
   have hguard : (x :: q).length ≤ 1000000000 ∧ (next x).length ≤ 1000000000 ∧ 0 ≤ (mget m x).getD 0 ∧ (mget m x).getD 0 ≤ 1000000000000 := ⟨by omega, by omega, hvx.1, by omega⟩
   have hv2 : ∀ y, 0 ≤ (mget (mput m x ((mget m x).getD 0 + 1)) y).getD 0 ∧ (mget (mput m x ((mget m x).getD 0 + 1)) y).getD 0 ≤ ((V + 1 : Nat) : Int) := by
    intro y
    by_cases e : y = x
    ·subst e
     rw [mget_mput_same]
     simp only [Option.getD_some]
     omega
    ·rw [mget_mput_other _ _ _ e]
     have := hv y
     omega
   have hkeys := mput_keys x ((mget m x).getD 0 + 1) m
   have hp2 : ∀ y ∈ (mput m x ((mget m x).getD 0 + 1)).map (·.1), 1 ≤ (mget (mput m x ((mget m x).getD 0 + 1)) y).getD 0 := by
    intro y hy
    by_cases e : y = x
    ·subst e
     rw [mget_mput_same]
     simp only [Option.getD_some]
     omega
    ·rw [mget_mput_other _ _ _ e]
     refine hp y ?_
     rw [hkeys] at hy
     split at hy
     ·exact hy
     ·exact (List.mem_append.1 hy).elim id (fun h => absurd (List.mem_singleton.1 h) e)
   by_cases h0v : (mget m x).getD 0 = 0
   ·have hxm : x ∉ m.map (·.1) := fun h => by have := hp x h; omega
    rw [if_neg hxm] at hkeys
    have hmlen : (mput m x ((mget m x).getD 0 + 1)).length = m.length + 1 := by
     have := congrArg List.length hkeys
     simpa using this
    have hn2 : ((mput m x ((mget m x).getD 0 + 1)).map (·.1)).Nodup := by
     rw [hkeys, List.nodup_append]
     refine ⟨hn, by simp, fun a ha b hb => ?_⟩
     rw [List.mem_singleton] at hb
     subst hb
     intro e
     subst e
     exact hxm ha
    have hm2 : ∀ y ∈ (mput m x ((mget m x).getD 0 + 1)).map (·.1), Reach next l0 y := by
     intro y hy
     rw [hkeys] at hy
     exact (List.mem_append.1 hy).elim (hm y) (fun h => by rw [List.mem_singleton.1 h]; exact hrx)
    have hml2 : m.length + 1 ≤ 20 := by
     have := length_of_sub hn2 (fun x hx => (hm2 x hx).sym hd hl)
     rw [List.length_map, hmlen] at this
     exact this
    obtain ⟨k, r, hk, hr⟩ := ihM (mput m x ((mget m x).getD 0 + 1)) (q ++ next x) (V + 1)
     (fun y hy => (List.mem_append.1 hy).elim (fun h => hq y (List.mem_cons_of_mem _ h)) (fun h => .step hrx h)) hm2 hn2 hv2 hp2
     (fun z hz y hy => by
      rw [hkeys] at hz ⊢
      rcases List.mem_append.1 hz with h | h
      ·rcases hc z h y hy with h | h
       ·rcases List.mem_cons.1 h with h | h
        ·subst h; exact .inr (by simp)
        ·exact .inl (List.mem_append_left _ h)
       ·exact .inr (List.mem_append_left _ h)
      ·rw [List.mem_singleton.1 h] at hy
       exact .inl (List.mem_append_right _ hy))
     (fun z hz => by
      rw [hkeys]
      rcases h0 z hz with h | h
      ·rcases List.mem_cons.1 h with h | h
       ·subst h; exact .inr (by simp)
       ·exact .inl (List.mem_append_left _ h)
      ·exact .inr (List.mem_append_left _ h))
     (by
      rw [hmlen, List.length_append]
      have e1 : 20 - m.length = (20 - (m.length + 1)) + 1 := by omega
      rw [e1, Nat.mul_add, Nat.mul_one, List.length_cons] at hM
      omega) (by omega)
    exact ⟨k + 1, r, by simp only [fromF]; rw [if_pos hguard, if_pos h0v]; exact hk, hr⟩
   ·have hxm : x ∈ m.map (·.1) := by
     rw [← mget_isSome]
     cases h : mget m x with
     | none => rw [h] at h0v; simp at h0v
     | some v => rfl
    rw [if_pos hxm] at hkeys
    have hmlen : (mput m x ((mget m x).getD 0 + 1)).length = m.length := by
     have := congrArg List.length hkeys
     simpa using this
    obtain ⟨k, r, hk, hr⟩ := ihM (mput m x ((mget m x).getD 0 + 1)) q (V + 1) (fun y hy => hq y (List.mem_cons_of_mem _ hy)) (by rw [hkeys]; exact hm) (by rw [hkeys]; exact hn) hv2 hp2
     (fun z hz y hy => by
      rw [hkeys] at hz ⊢
      rcases hc z hz y hy with h | h
      ·rcases List.mem_cons.1 h with h | h
       ·subst h; exact .inr hxm
       ·exact .inl h
      ·exact .inr h)
     (fun z hz => by
      rw [hkeys]
      rcases h0 z hz with h | h
      ·rcases List.mem_cons.1 h with h | h
       ·subst h; exact .inr hxm
       ·exact .inl h
      ·exact .inr h)
     (by rw [hmlen]; rw [List.length_cons] at hM; omega) (by omega)
    exact ⟨k + 1, r, by simp only [fromF]; rw [if_pos hguard, if_neg h0v]; exact hk, hr⟩
theorem from_reach (next : Int → List Int) (hlen : ∀ x, inSym x → (next x).length ≤ 1000000) (hd : ∀ x, inSym x → ∀ y ∈ next x, inSym y) (l0 : List Int) (hl : ∀ x ∈ l0, inSym x) (hl0 : l0.length ≤ 1000000) :
  ∃ k r, fromF next k [] l0 = some r ∧ sortI (r.map (·.1)) = reachL next l0 := by
 obtain ⟨k, r, hk, hm, hn⟩ := from_some_aux next 1000000 (Nat.le_refl _) hlen hd l0 hl (l0.length + 1000000 * 20) [] l0 0 (fun x hx => .base hx) (by simp) (by simp) (fun x => by simp [mget]) (by simp) (by simp) (fun x hx => .inl hx) (by simp) (by omega)
 refine ⟨k, r, hk, ?_⟩
 have hp : (r.map (·.1)).Perm (reachL next l0) := (List.perm_ext_iff_of_nodup hn (symbols_nodup.filter _)).2 fun y => (hm y).trans (mem_reachL hd hl y).symm
 have h2 : sortI (reachL next l0) = reachL next l0 := by
  unfold sortI
  refine List.mergeSort_of_pairwise ?_
  refine (symbols_sorted.filter _).imp ?_
  intro a b h
  simp [leI]
  omega
 rw [← h2]
 exact mergeSort_of_perm_i hp
end Go.Proofs.YtiocgaekoeekgaaGreat.P
end
section
namespace Go.Proofs.YtiocgaekoeekgaaGreat.P
open Go.RowKit Go.Proofs.YtiocgaekoeekgaaGreatW.PrintWords Go.Proofs.YtiocgaekoeekgaaGreatW.PrintLast Go.Proofs.YtiocgaekoeekgaaGreatW.PrintMore
attribute [local go_sem] max2_int min2_int max_two min_two max_three min_three max_four min_four   
set_option linter.unusedVariables false
set_option linter.unusedSimpArgs false
theorem indexFunc_rule (fv : Value) (A0 : Option Addr) (c0 : Nat) (l0 : List S56) (p : S56 → Bool) (w : World) (hr0 : Kd.C k56 w A0 l0.length l0) (hc0 : l0.length ≤ c0)
  (hf : FnTells Tryz.prog w (AggRel k56) fv p) :
  Calls Tryz.prog 132 #[.slice A0 l0.length c0, fv] w fun e w' => e = .returned (.int .i64 (idxOf p l0)) ∧ Below w.heap.size w w' := by
 obtain ⟨g, pre, lb, rfl, eg, hq⟩ := hf
 have hl : l0.length ≤ 9223372036854775807 := hr0.2.1
 have HR := Aside0.mk hr0
 clear hr0
 have HQ := Aside0.mk hq
 clear hq
 go_enter Tryz.func132, Tryz.ntmps132
 go_wp2
 go_loopg [8] l0.length (fun gg s8 wr => ∃ kk : Nat, kk ≤ l0.length ∧ l0.length - kk ≤ gg ∧ s8 = .int .i64 kk ∧ Aside0 (Below w.heap.size w wr) ∧ Aside0 (∀ j, j < kk → ∀ h : j < l0.length, p l0[j] = false))
 case atStart => exact ⟨0, Nat.zero_le _, by omega, rfl, ⟨Below.refl _ w⟩, ⟨fun j hj => absurd hj (Nat.not_lt_zero _)⟩⟩
 case round =>
  obtain ⟨kk, hkk, hg, rfl, BW, A⟩ := hrel
  by_cases hlt : kk < l0.length
  ·have hltz : (kk : Int) < (l0.length : Int) := by omega
   obtain ⟨ad, A1, c1, A3, c3, hA, h0, h1, h2, h3, h4, l1, g1, l3, g3⟩ := at_T56 (Kd.C_below HR.out BW.out) kk (by omega) hltz
   have hcall := HQ.out wr (rd_T56 l0 kk) _ BW.out ⟨_, rfl, k56_mk wr (rd_T56 l0 kk) l1 g1 l3 g3⟩
   have hx : rd_T56 l0 kk = l0[kk] := by simp [rd_T56, List.getD_eq_getElem?_getD, List.getElem?_eq_getElem hlt]
   have HX := Aside0.mk hx
   generalize rd_T56 l0 kk = y at *
   rw [Int.toNat_natCast] at h0 h1 h2 h3 h4
   subst hA
   clear hx l1 g1 l3 g3
   cases hp : p y with
   | true =>
    rw [hp] at hcall
    go_wp2_with fail
    refine hcall.mono ?_
    rintro e w' ⟨rfl, hb'⟩
    go_wp2
    go_ret
    refine ⟨?_, below_then BW.out BW.out.size hb'⟩
    rw [idxOf_hit hlt A.out (by rw [← HX.out]; exact hp)]
    rfl
   | false =>
    rw [hp] at hcall
    go_wp2_with fail
    refine hcall.mono ?_
    rintro e w' ⟨rfl, hb'⟩
    go_wp2
    go_roundg (l0.length - (kk + 1))
    case measure => omega
    case rel =>
     refine ⟨kk + 1, by omega, by omega, by go_num, ⟨below_then BW.out BW.out.size hb'⟩, ⟨fun j hj hlt => ?_⟩⟩
     by_cases e : j = kk
     ·subst e
      rw [← HX.out]; exact hp
     ·exact A.out j (by omega) hlt
  ·have hltz : ¬ (kk : Int) < (l0.length : Int) := by omega
   have : kk = l0.length := by omega
   subst this
   go_wp2
   go_ret
   refine ⟨?_, BW.out⟩
   rw [idxOf_miss A.out]
   rfl
theorem containsFunc_rule (fv : Value) (A0 : Option Addr) (c0 : Nat) (l0 : List S56) (p : S56 → Bool) (w : World) (hr0 : Kd.C k56 w A0 l0.length l0) (hc0 : l0.length ≤ c0)
  (hf : FnTells Tryz.prog w (AggRel k56) fv p) :
  Calls Tryz.prog 95 #[.slice A0 l0.length c0, fv] w fun e w' => e = .returned (.bool (l0.any p)) ∧ Below w.heap.size w w' := by
 have hc := indexFunc_rule fv A0 c0 l0 p w hr0 hc0 hf
 rw [← idxOf_ge]
 clear hr0 hf
 generalize idxOf p l0 = q at hc
 go_enter Tryz.func95, Tryz.ntmps95
 go_wp2_with fail
 refine hc.mono ?_
 rintro e w' ⟨rfl, hb'⟩
 go_wp2
 go_ret
 exact ⟨rfl, hb'⟩
end Go.Proofs.YtiocgaekoeekgaaGreat.P
end
section
namespace Go.Proofs.YtiocgaekoeekgaaGreat.P
open Go.RowKit Go.Proofs.YtiocgaekoeekgaaGreatW.PrintWords Go.Proofs.YtiocgaekoeekgaaGreatW.PrintLast Go.Proofs.YtiocgaekoeekgaaGreatW.PrintMore
attribute [local go_sem] max2_int min2_int max_two min_two max_three min_three max_four min_four   
set_option linter.unusedVariables false
set_option linter.unusedSimpArgs false
theorem wrap_in {n : Int} (h : -9223372036854775808 ≤ n ∧ n ≤ 9223372036854775807) : wrap64 n = n := by unfold wrap64; omega
theorem index_some (l : List Int) (a : Int) (hl : l.length ≤ 9223372036854775807) : ∀ (n k : Nat) (x : Nat), x ≤ l.length → l.length - x = n → n < k → ∃ i : Int, slices_Index_int_int.l0 k l a (l.length : Int) x = some i ∧ (decide (i ≥ 0) = decide (a ∈ l.drop x)) := by
 intro n
 induction n with
 | zero =>
  intro k x hx hn hk
  obtain ⟨k, rfl⟩ : ∃ j, k = j + 1 := ⟨k - 1, by omega⟩
  have he : x = l.length := by omega
  subst he
  refine ⟨-1, ?_, by simp⟩
  simp only [slices_Index_int_int.l0]
  rw [if_neg (by omega)]
 | succ n ih =>
  intro k x hx hn hk
  obtain ⟨k, rfl⟩ : ∃ j, k = j + 1 := ⟨k - 1, by omega⟩
  have hlt : x < l.length := by omega
  simp only [slices_Index_int_int.l0]
  rw [if_pos (by omega), if_pos (by omega), if_pos (by omega), rd_getElem l x hlt, List.drop_eq_getElem_cons hlt]
  by_cases he : a = l[x]
  ·rw [if_pos he]
   exact ⟨x, rfl, by rw [← he, decide_eq_true (Int.natCast_nonneg x : (x : Int) ≥ 0), decide_eq_true List.mem_cons_self]⟩
  ·rw [if_neg he, wrap_in (by omega)]
   obtain ⟨i, h1, h2⟩ := ih k (x + 1) (by omega) (by omega) (by omega)
   refine ⟨i, h1, ?_⟩
   rw [h2]
   exact decide_eq_decide.2 ⟨fun h => List.mem_cons_of_mem _ h, fun h => (List.mem_cons.1 h).elim (fun h => absurd h he) id⟩
theorem contains_some (l : List Int) (a : Int) (k : Nat) (hl : l.length ≤ 9223372036854775807) (hk : l.length < k) : slices_Contains_int_int.f k l a = some (decide (a ∈ l)) := by
 obtain ⟨i, h1, h2⟩ := index_some l a hl l.length k 0 (Nat.zero_le _) rfl hk
 unfold slices_Contains_int_int.f slices_Index_int_int.f
 rw [show ((0 : Nat) : Int) = 0 from rfl] at h1
 rw [h1]
 simp only [Option.bind_some, h2, List.drop_zero]
def rightR (r : Rule') : Bool := rightP r.f0 r.f1 r.f2.f0 r.f2.f1 r.f3
theorem check1_tells (w : World) : FnTells Tryz.prog w (AggRel k56) (.func (.func 96) #[] #[]) (fun r => !rightR r) := by
 refine ⟨_, _, _, rfl, enters_of Tryz.func96 (by kernel_rfl) rfl, ?_⟩
 rintro W x v hb ⟨cs, rfl, hK⟩
 obtain ⟨A1, c1, A3, c3, rfl, l1, g1, l3, g3⟩ := k56_open hK
 clear hb hK
 have hcall := gram_Right.calls x.f0 A1 c1 x.f1 x.f2.f0 A3 c3 x.f2.f1 x.f3 (rightR x) (W.alloc (.cells #[.int .i64 x.f0, .slice A1 x.f1.length c1, .int .i64 x.f2.f0, .slice A3 x.f2.f1.length c3, .int .i64 x.f3] 56)) (Kd.C_alloc g1 _) l1 (Kd.C_alloc g3 _) l3 rfl
 clear g1 g3
 cases hp : rightR x with
 | true =>
  rw [hp] at hcall
  go_enter Tryz.func96, Tryz.ntmps96
  go_wp2_with fail
  refine hcall.mono ?_
  rintro e w' ⟨rfl, hb'⟩
  have HB := Aside0.mk (below_step (below_alloc (Below.refl _ W) _) hb')
  go_wp2
  go_ret
  exact ⟨ret_bool (by rw [hp]; rfl), HB.out⟩
 | false =>
  rw [hp] at hcall
  go_enter Tryz.func96, Tryz.ntmps96
  go_wp2_with fail
  refine hcall.mono ?_
  rintro e w' ⟨rfl, hb'⟩
  have HB := Aside0.mk (below_step (below_alloc (Below.refl _ W) _) hb')
  go_wp2
  go_ret
  exact ⟨ret_bool (by rw [hp]; rfl), HB.out⟩
theorem check2_tells (w : World) (g : Nat) (A : Option Addr) (c : Nat) (rows : List (List Int)) (hg : w.cell? ⟨g, 0, none⟩ = some (.slice A rows.length c)) (hlen : rows.length = 20) (hC : Kd.C (Kd.slice 3 (Kd.int .i64)) w A rows.length rows) :
  FnLists Tryz.prog w inSym (.func (.func 101) #[] #[.pointer (some ⟨g, 0, none⟩)]) (fun y => rd_L5 rows y) := by
 refine ⟨_, _, _, rfl, enters_of Tryz.func101 (by kernel_rfl) rfl, ?_⟩
 rintro W x hb ⟨hx0, hx1⟩
 have hxl : x < (rows.length : Int) := by omega
 have hcell := pw_cell_below hb hg
 obtain ⟨ad, A0, c0, rfl, h0, h1, h2⟩ := at_L5 (Kd.C_below hC hb) x hx0 hxl
 have hx0' : ¬ x < 0 := by omega
 clear hb hg hC
 have H2 := Aside0.mk h2
 clear h2
 go_enter Tryz.func101, Tryz.ntmps101
 go_wp2
 go_ret
 exact ⟨A0, c0, rfl, h1, H2.out, Below.refl _ _⟩
def rowsNext (l0 : List Rule') : Int → List Int := fun y => rd_L5 (unitsP l0) y
theorem unitsP_length (l0 : List Rule') : (unitsP l0).length = 20 := by simp [unitsP]
theorem rowsNext_at (l0 : List Rule') (x : Nat) (h : x < 20) : rowsNext l0 x = rowUpto (foundL l0) x 20 := by
 unfold rowsNext rd_L5 unitsP
 rw [Int.toNat_natCast, List.getD_eq_getElem?_getD, List.getElem?_map, List.getElem?_range h]
 rfl
theorem rowsNext_len (l0 : List Rule') (x : Int) (h : inSym x) : (rowsNext l0 x).length ≤ 20 := by
 obtain ⟨n, rfl⟩ : ∃ n : Nat, x = n := ⟨x.toNat, by have := h.1; omega⟩
 rw [rowsNext_at l0 n (by have := h.2; omega)]
 exact rowUpto_len _ _ _
theorem rowsNext_sym (l0 : List Rule') (x : Int) (h : inSym x) : ∀ y ∈ rowsNext l0 x, inSym y := by
 obtain ⟨n, rfl⟩ : ∃ n : Nat, x = n := ⟨x.toNat, by have := h.1; omega⟩
 rw [rowsNext_at l0 n (by have := h.2; omega)]
 intro y hy
 exact (mem_symbols y).1 (List.mem_filter.1 hy).1
noncomputable def leadsBack (l0 : List Rule') (x : Int) : Bool := decide (x ∈ reachL (rowsNext l0) (rowsNext l0 x))
noncomputable def checkP (l0 : List Rule') : Bool := decide (l0.length ≤ 60) && (l0.all rightR && symbols.all fun x => !leadsBack l0 x)
theorem unitsB_of (l0 : List Rule') (h1 : l0.length ≤ 60) (h2 : l0.all rightR = true) : unitsB l0 = true := by
 unfold unitsB
 rw [Bool.and_eq_true]
 refine ⟨List.all_eq_true.2 fun r hr => ?_, decide_eq_true (by omega)⟩
 have h3 := List.all_eq_true.1 h2 r hr
 unfold rightR rightP symbolB at h3
 simp only [Bool.and_eq_true, decide_eq_true_eq] at h3
 exact decide_eq_true h3.1
theorem leadsBack_calls (l0 : List Rule') (fv : Value) (A : Option Addr) (c : Nat) (x : Int) (hx : inSym x) (w : World) (hf : FnLists Tryz.prog w inSym fv (rowsNext l0)) (hC : Kd.C (Kd.int .i64) w A (rowsNext l0 x).length (rowsNext l0 x)) (hc : (rowsNext l0 x).length ≤ c) :
  Calls Tryz.prog 100 #[.slice A (rowsNext l0 x).length c, fv] w fun e w' => ∃ v0_ : Value, e = .returned (v0_) ∧ Kd.R (Kd.int .i64) 3 w' w.heap.size (fun _ => True) v0_ (reachL (rowsNext l0) (rowsNext l0 x)) ∧ Below w.heap.size w w' := by
 obtain ⟨k, r, h1, h2⟩ := from_reach (rowsNext l0) (fun y hy => Nat.le_trans (rowsNext_len l0 y hy) (by omega)) (rowsNext_sym l0) (rowsNext l0 x) (rowsNext_sym l0 x hx) (Nat.le_trans (rowsNext_len l0 x hx) (by omega))
 rw [← h2]
 exact from_walk fv (rowsNext l0) inSym (fun y hy => ⟨⟨by have := hy.1; omega, by have := hy.2; omega⟩, rowsNext_sym l0 y hy⟩) k A c (rowsNext l0 x) r w hf (rowsNext_sym l0 x hx) hC hc h1
theorem reachL_length (next : Int → List Int) (l : List Int) : (reachL next l).length ≤ 20 := Nat.le_trans (List.length_filter_le _ _) (by decide)
set_option maxHeartbeats 4000000 in
set_option maxRecDepth 100000 in
theorem check_walk (A0 : Option Addr) (c0 : Nat) (l0 : List Rule') (w : World) (hr0 : Kd.C k56 w A0 l0.length l0) (hc0 : l0.length ≤ c0) :
  Calls Tryz.prog 47 #[.slice A0 l0.length c0] w fun e w' => e = .returned (.bool (checkP l0)) ∧ Below w.heap.size w w' := by
 by_cases h60 : l0.length ≤ 60
 ·have h60z : ¬ ((l0.length : Int) > 60) := by omega
  have hcall := containsFunc_rule _ A0 c0 l0 _ w hr0 hc0 (check1_tells w)
  rw [any_not_all] at hcall
  have HR := Aside0.mk hr0
  have HC := Aside0.mk hc0
  clear hr0 hc0
  cases hall : l0.all rightR with
  | false =>
   rw [hall] at hcall
   have hz : checkP l0 = false := by simp [checkP, hall]
   go_enter Tryz.func47, Tryz.ntmps47
   go_wp2_with fail
   refine hcall.mono ?_
   rintro e w' ⟨rfl, hb'⟩
   have HB := Aside0.mk hb'
   clear hb'
   go_wp2
   go_ret
   exact ⟨ret_bool hz.symm, HB.out⟩
  | true =>
   rw [hall] at hcall
   have hu := unitsB_of l0 h60 hall
   go_enter Tryz.func47, Tryz.ntmps47
   go_wp2_with fail
   refine hcall.mono ?_
   rintro e w1 ⟨rfl, hb'⟩
   have HB1 := Aside0.mk hb'
   have HR1 := Aside0.mk (Kd.C_below HR.out hb')
   clear hb' hcall
   go_wp2_with fail
   refine (units_walk A0 c0 l0 w1 HR1.out HC.out hu).mono ?_
   rintro e w2 ⟨v2, rfl, hS, hb2⟩
   obtain ⟨A2, c2, rfl, hc2, hC2⟩ := Kd.S_reads hS
   have hlen := unitsP_length l0
   have HB2 := Aside0.mk (below_step HB1.out hb2)
   have HF0 := Aside0.mk hC2
   clear hS hb2 hc2 hC2
   rw [hlen]
   have HLN := Aside0.mk hlen
   clear hlen
   have HG := Aside0.mk (cell_new0 w2 (.slice A2 20 c2) 111)
   have HB3 := Aside0.mk (below_alloc HB2.out (.cells #[.slice A2 20 c2] 111))
   have HC3 := Aside0.mk (Kd.C_alloc HF0.out (.cells #[.slice A2 20 c2] 111))
   clear HF0 HB2
   have HFN : Aside0 (FnLists Tryz.prog (w2.alloc (.cells #[.slice A2 20 c2] 111)) inSym (.func (.func 101) #[] #[.pointer (some ⟨w2.heap.size, 0, none⟩)]) (rowsNext l0)) :=
    ⟨check2_tells _ w2.heap.size A2 c2 (unitsP l0) (by rw [HLN.out]; exact HG.out) HLN.out HC3.out⟩
   go_wp2
   generalize w2.heap.size = g at *
   generalize (w2.alloc (.cells #[.slice A2 20 c2] 111)) = w3 at *
   go_loopg [17] 20 (fun gg s17 wr => ∃ kk : Nat, kk ≤ 20 ∧ 20 - kk ≤ gg ∧ s17 = .int .i64 kk ∧ Aside0 (Below w3.heap.size w3 wr) ∧ Aside0 (∀ j : Nat, j < kk → leadsBack l0 j = false))
   case atStart => exact ⟨0, by omega, by omega, rfl, ⟨Below.refl _ _⟩, ⟨fun j hj => absurd hj (Nat.not_lt_zero _)⟩⟩
   case round =>
    obtain ⟨kk, hkk, hg, rfl, BW, AB⟩ := hrel
    by_cases hlt : kk < 20
    ·have hltz : (kk : Int) < 20 := by omega
     have hsym : inSym (kk : Int) := ⟨by omega, by omega⟩
     have HFN2 : Aside0 (FnLists Tryz.prog wr inSym (.func (.func 101) #[] #[.pointer (some ⟨g, 0, none⟩)]) (rowsNext l0)) := by
      obtain ⟨g', pre, lb, e1, e2, e3⟩ := HFN.out
      exact ⟨g', pre, lb, e1, e2, fun W x hb hd => e3 W x (BW.out.trans (hb.mono BW.out.size)) hd⟩
     obtain ⟨ad, A4, c4, hA, h0, h1, h2⟩ := at_L5 (Kd.C_below HC3.out BW.out) kk (by omega) (by rw [HLN.out]; exact hltz)
     rw [Int.toNat_natCast] at h0
     subst hA
     have hrow : rd_L5 (unitsP l0) (kk : Int) = rowsNext l0 kk := rfl
     rw [hrow] at h0 h1 h2
     have H1 := Aside0.mk h1
     have H2 := Aside0.mk h2
     clear hrow h1 h2
     go_wp2_with fail
     refine (leadsBack_calls l0 _ A4 c4 kk hsym wr HFN2.out H2.out H1.out).mono ?_
     rintro e w4 ⟨v4, rfl, hR4, hb4⟩
     obtain ⟨A5, c5, rfl, hc5, hC5⟩ := Kd.R_reads hR4
     have HB4 := Aside0.mk (below_step BW.out hb4)
     have HC5 := Aside0.mk hC5
     have HL5 := Aside0.mk hc5
     have hcs := contains_some (reachL (rowsNext l0) (rowsNext l0 kk)) kk 100 (Nat.le_trans (reachL_length _ _) (by omega)) (Nat.lt_of_le_of_lt (reachL_length _ _) (by omega))
     have HCS := Aside0.mk hcs
     clear hR4 hb4 hC5 hc5 hcs h0
     have hlb : decide ((kk : Int) ∈ reachL (rowsNext l0) (rowsNext l0 kk)) = leadsBack l0 kk := rfl
     have HLB := Aside0.mk hlb
     clear hlb
     cases hb : leadsBack l0 kk with
     | true =>
      have HCS2 : Aside0 (slices_Contains_int_int.f 100 (reachL (rowsNext l0) (rowsNext l0 kk)) kk = some true) := ⟨by rw [HCS.out, HLB.out, hb]⟩
      have hz : checkP l0 = false := by
       unfold checkP
       have : (symbols.all fun x => !leadsBack l0 x) = false := List.all_eq_false.2 ⟨kk, (mem_symbols _).2 hsym, by simp [hb]⟩
       rw [this, Bool.and_false, Bool.and_false]
      go_wp2_with fail
      refine (slices_Contains_int_int.calls 100 A5 c5 _ kk true w4 HC5.out HL5.out HCS2.out).mono ?_
      rintro e w' ⟨rfl, ⟨nd, rfl⟩⟩
      go_wp2
      go_ret
      exact ⟨ret_bool hz.symm, pw_below_drewN (HB3.out.trans (HB4.out.mono HB3.out.size)) _⟩
     | false =>
      have HCS2 : Aside0 (slices_Contains_int_int.f 100 (reachL (rowsNext l0) (rowsNext l0 kk)) kk = some false) := ⟨by rw [HCS.out, HLB.out, hb]⟩
      go_wp2_with fail
      refine (slices_Contains_int_int.calls 100 A5 c5 _ kk false w4 HC5.out HL5.out HCS2.out).mono ?_
      rintro e w' ⟨rfl, ⟨nd, rfl⟩⟩
      go_wp2
      go_roundg (20 - (kk + 1))
      case measure => omega
      case rel =>
       refine ⟨kk + 1, by omega, by omega, by go_num, ⟨pw_below_drewN HB4.out _⟩, ⟨fun j hj => ?_⟩⟩
       by_cases e : j = kk
       ·subst e; exact hb
       ·exact AB.out j (by omega)
    ·have hltz : ¬ (kk : Int) < 20 := by omega
     have hkk : kk = 20 := by omega
     subst hkk
     have hz : checkP l0 = true := by
      unfold checkP
      have : (symbols.all fun x => !leadsBack l0 x) = true := by
       rw [List.all_eq_true]
       intro x hx
       have hs := (mem_symbols _).1 hx
       have h9 := AB.out x.toNat (by have := hs.1; have := hs.2; omega)
       rw [Int.toNat_of_nonneg hs.1] at h9
       rw [h9]; rfl
      rw [this, hall, decide_eq_true h60]; rfl
     go_wp2
     go_ret
     exact ⟨by first | rfl | exact ret_bool hz.symm, HB3.out.trans (BW.out.mono HB3.out.size)⟩
 ·have h60z : (l0.length : Int) > 60 := by omega
  have hz : checkP l0 = false := by simp [checkP, h60]
  go_enter Tryz.func47, Tryz.ntmps47
  go_wp2
  go_ret
  exact ⟨ret_bool hz.symm, Below.refl _ _⟩
end Go.Proofs.YtiocgaekoeekgaaGreat.P
end
section
namespace Go.Proofs.YtiocgaekoeekgaaGreat.P
open Go.RowKit Go.Proofs.YtiocgaekoeekgaaGreatW.PrintWords Go.Proofs.YtiocgaekoeekgaaGreatW.PrintLast Go.Proofs.YtiocgaekoeekgaaGreatW.PrintMore
attribute [local go_sem] max2_int min2_int max_two min_two max_three min_three max_four min_four   
set_option linter.unusedVariables false
set_option linter.unusedSimpArgs false
attribute [local go_sem] Oper.semAt_some
noncomputable def locOk (l : List S44) (i : Nat) (x : S44) : Bool :=
 idP x.f0 && (!((l.take i).any fun y => y.f0.toList == x.f0.toList) && (withinP x.f1 (-1) ((i : Int) - 1) && (withinP x.f2 0 3 && (!decide (30 < x.f3.length) && (!decide (20 < x.f5.length) && (x.f3.all entryP && (x.f5.all styleP && (!decide (60 < x.f4.length) && checkP (rulesP l i)))))))))
noncomputable def rightFrom (l : List S44) : Nat → Nat → Bool
 | 0, _ => true
 | n + 1, i => if locOk l i (rd_T44 l (i : Int)) = true then rightFrom l n (i + 1) else false
noncomputable def rightP5 (l : List S44) : Bool := if 10 < l.length then false else rightFrom l l.length 0
def okLocs (l : List S44) : Prop := ∀ x ∈ l, x.f0.size ≤ 1000000000000 ∧ x.f4.length ≤ 1000000
set_option maxHeartbeats 16000000 in
set_option maxRecDepth 100000 in
theorem right5_walk (A : Option Addr) (c : Nat) (l : List S44) (w : World) (hr : Kd.C k44 w A l.length l) (hc : l.length ≤ c) (hok : okLocs l) :
  Calls Tryz.prog 16 #[.slice A l.length c] w fun e w' => e = .returned (.bool (rightP5 l)) ∧ Below w.heap.size w w' := by
 have hmf : ∀ (fn : Fn) (first cap : Array Value) (w : World), (Instr.makeFunc fn first cap).run Tryz.prog w = .ok (.func fn first cap) w := fun _ _ _ _ => rfl
 have HR := Aside0.mk hr
 have HC := Aside0.mk hc
 have HOK := Aside0.mk hok
 have hbn : l.length ≤ 9223372036854775807 := hr.2.1
 by_cases hbig : 10 < l.length
 ·have HE : Aside0 (rightP5 l = false) := ⟨if_pos hbig⟩
  have hbz : decide ((10 : Int) < (l.length : Int)) = true := decide_eq_true (by omega)
  have hbz' : decide (10 < l.length) = true := decide_eq_true hbig
  clear hr hc hok hbig
  go_enter Tryz.func16, Tryz.ntmps16
  go_wp2
  go_ret
  rw [HE.out]
  exact ⟨rfl, Below.refl _ _⟩
 have HE : Aside0 (rightP5 l = rightFrom l (l.length - 0) 0) := ⟨if_neg hbig⟩
 have hlt : l.length ≤ 10 := by omega
 have hbz : decide ((10 : Int) < (l.length : Int)) = false := decide_eq_false (by omega)
 have hbz' : decide (10 < l.length) = false := decide_eq_false hbig
 generalize rightP5 l = r at *
 clear hr hc hok hbig
 go_enter Tryz.func16, Tryz.ntmps16
 go_wp2
 go_loopg [11] l.length (fun gg s11 wr => ∃ i : Nat, i ≤ l.length ∧ l.length - i ≤ gg ∧ s11 = .int .i64 i ∧ Aside0 (r = rightFrom l (l.length - i) i) ∧ Aside0 (Below w.heap.size w wr))
 case atStart => exact ⟨0, by omega, by omega, rfl, HE, ⟨Below.refl _ _⟩⟩
 case round =>
  clear HE
  obtain ⟨i, hi, hgg, rfl, HE, HW⟩ := hrel
  by_cases hil : i < l.length
  ·have hilz : (i : Int) < (l.length : Int) := by omega
   obtain ⟨ad, A3, c3, A4, c4, A5, c5, hA, h0, h1, h2, h3, h4, h5, l3, g3, l4, g4, l5, g5⟩ := at_T44 HR.out (i : Int) (by omega) hilz
   have HA : Aside0 (A = some ad) := ⟨hA⟩
   have hy : rd_T44 l (i : Int) = l[i] := by
    show l.getD (i : Int).toNat _ = _
    rw [Int.toNat_natCast, List.getD_eq_getElem?_getD, List.getElem?_eq_getElem hil]
    rfl
   have HOX : Aside0 ((rd_T44 l (i : Int)).f0.size ≤ 1000000000000 ∧ (rd_T44 l (i : Int)).f4.length ≤ 1000000) := ⟨by rw [hy]; exact HOK.out _ (List.getElem_mem hil)⟩
   have HE1 : Aside0 (r = if locOk l i (rd_T44 l (i : Int)) = true then rightFrom l (l.length - (i + 1)) (i + 1) else false) := ⟨by rw [HE.out, show l.length - i = (l.length - (i + 1)) + 1 from by omega, rightFrom]⟩
   clear hy HE
   generalize rd_T44 l (i : Int) = x at *
   rw [Int.toNat_natCast] at h0 h1 h2 h3 h4 h5
   replace h0 := pw_cell_below HW.out h0
   replace h1 := pw_cell_below HW.out h1
   replace h2 := pw_cell_below HW.out h2
   replace h3 := pw_cell_below HW.out h3
   replace h4 := pw_cell_below HW.out h4
   replace h5 := pw_cell_below HW.out h5
   have G3 := Aside0.mk g3
   have L3 := Aside0.mk l3
   have G5 := Aside0.mk g5
   have L5 := Aside0.mk l5
   clear l3 g3 l4 g4 l5 g5
   obtain ⟨b1, hb1⟩ : ∃ b, idP x.f0 = b := ⟨_, rfl⟩
   obtain ⟨b2, hb2⟩ : ∃ b, ((l.take i).any fun y => y.f0.toList == x.f0.toList) = b := ⟨_, rfl⟩
   obtain ⟨b3, hb3⟩ : ∃ b, withinP x.f1 (-1) ((i : Int) - 1) = b := ⟨_, rfl⟩
   obtain ⟨b4, hb4⟩ : ∃ b, withinP x.f2 0 3 = b := ⟨_, rfl⟩
   obtain ⟨b5, hb5⟩ : ∃ b, decide (30 < x.f3.length) = b := ⟨_, rfl⟩
   obtain ⟨b6, hb6⟩ : ∃ b, decide (20 < x.f5.length) = b := ⟨_, rfl⟩
   obtain ⟨b7, hb7⟩ : ∃ b, x.f3.all entryP = b := ⟨_, rfl⟩
   obtain ⟨b8, hb8⟩ : ∃ b, x.f5.all styleP = b := ⟨_, rfl⟩
   obtain ⟨b9, hb9⟩ : ∃ b, decide (60 < x.f4.length) = b := ⟨_, rfl⟩
   have hb5' : decide ((30 : Int) < (x.f3.length : Int)) = b5 := by rw [← hb5]; congr 1; simp; omega
   have hb6' : decide ((20 : Int) < (x.f5.length : Int)) = b6 := by rw [← hb6]; congr 1; simp; omega
   have hb9' : decide ((60 : Int) < (x.f4.length : Int)) = b9 := by rw [← hb9]; congr 1; simp; omega
   obtain ⟨RS, hRS⟩ : ∃ RS, rulesP l i = RS := ⟨_, rfl⟩
   obtain ⟨b10, hb10⟩ : ∃ b, checkP RS = b := ⟨_, rfl⟩
   have HB : Aside0 (locOk l i x = (b1 && (!b2 && (b3 && (b4 && (!b5 && (!b6 && (b7 && (b8 && (!b9 && b10)))))))))) := ⟨by rw [← hb1, ← hb2, ← hb3, ← hb4, ← hb5, ← hb6, ← hb7, ← hb8, ← hb9, ← hb10, ← hRS]; rfl⟩
   have HK0 : Aside0 ((wr.alloc (.cells #[.string x.f0, .int .i64 x.f1, .int .i64 x.f2, .slice A3 x.f3.length c3, .slice A4 x.f4.length c4, .slice A5 x.f5.length c5] 44)).heap[wr.heap.size]? = some (.cells #[.string x.f0, .int .i64 x.f1, .int .i64 x.f2, .slice A3 x.f3.length c3, .slice A4 x.f4.length c4, .slice A5 x.f5.length c5] 44 (0, 0))) := ⟨blk_new wr _⟩
   have HB0 : Aside0 (Below w.heap.size w (wr.alloc (.cells #[.string x.f0, .int .i64 x.f1, .int .i64 x.f2, .slice A3 x.f3.length c3, .slice A4 x.f4.length c4, .slice A5 x.f5.length c5] 44))) := ⟨below_step HW.out (below_alloc (Below.refl _ _) _)⟩
   obtain ⟨i0, hinf, hz0, hz1, hz2⟩ := info_parts info44
   have hcut := cut_to (P := Tryz.prog) 26 44 .i64 Tryz.underlying26 hinf A l.length c (i : Int) (by omega) (by omega) HC.out
   rw [Int.toNat_natCast] at hcut
   clear hinf hz0 hz1 hz2
   have hwi : wrap64 ((i : Int) - 1) = (i : Int) - 1 := by rw [wrap64]; omega
   have H1 : Aside0 (∀ W, Calls Tryz.prog 41 #[.string x.f0] W fun e w' => e = .returned (.bool b1) ∧ Below W.heap.size W w') := ⟨by rw [← hb1]; exact fun W => id_w x.f0 W HOX.out.1⟩
   have H2 : Aside0 (Calls Tryz.prog 39 #[.slice A i c, .func (.func 40) #[] #[.pointer (some ⟨wr.heap.size, 0, none⟩)]] (wr.alloc (.cells #[.string x.f0, .int .i64 x.f1, .int .i64 x.f2, .slice A3 x.f3.length c3, .slice A4 x.f4.length c4, .slice A5 x.f5.length c5] 44)) fun e w' => e = .returned (.bool b2) ∧ Below (wr.alloc (.cells #[.string x.f0, .int .i64 x.f1, .int .i64 x.f2, .slice A3 x.f3.length c3, .slice A4 x.f4.length c4, .slice A5 x.f5.length c5] 44)).heap.size (wr.alloc (.cells #[.string x.f0, .int .i64 x.f1, .int .i64 x.f2, .slice A3 x.f3.length c3, .slice A4 x.f4.length c4, .slice A5 x.f5.length c5] 44)) w') := ⟨by
    have hti : (l.take i).length = i := by rw [List.length_take]; omega
    have hcf := containsFunc_loc _ A c (l.take i) _ _ (Kd.C_take (Kd.C_below HR.out HB0.out) (by omega)) (by rw [hti]; have := HC.out; omega) (right1_tells wr.heap.size x.f0 _ (blk_cell HK0.out 0))
    rw [hb2, hti] at hcf
    exact hcf⟩
   have H3 : Aside0 (∀ W, Calls Tryz.prog 42 #[.int .i64 x.f1, .int .i64 (-1), .int .i64 ((i : Int) - 1)] W fun e w' => e = .returned (.bool b3) ∧ Below W.heap.size W w') := ⟨by rw [← hb3]; exact within_w _ _ _⟩
   have H4 : Aside0 (∀ W, Calls Tryz.prog 42 #[.int .i64 x.f2, .int .i64 0, .int .i64 3] W fun e w' => e = .returned (.bool b4) ∧ Below W.heap.size W w') := ⟨by rw [← hb4]; exact within_w _ _ _⟩
   have H7 : Aside0 (∀ W, Below w.heap.size w W → Calls Tryz.prog 43 #[.slice A3 x.f3.length c3, .func (.func 44) #[] #[]] W fun e w' => e = .returned (.bool b7) ∧ Below W.heap.size W w') := ⟨by rw [← hb7]; exact fun W hB => eachE_walk A3 c3 x.f3 W (Kd.C_below G3.out hB) L3.out⟩
   have H8 : Aside0 (∀ W, Below w.heap.size w W → Calls Tryz.prog 45 #[.slice A5 x.f5.length c5, .func (.func 46) #[] #[]] W fun e w' => e = .returned (.bool b8) ∧ Below W.heap.size W w') := ⟨by rw [← hb8]; exact fun W hB => eachS_walk A5 c5 x.f5 W (Kd.C_below G5.out hB) L5.out⟩
   have H9 : Aside0 (∀ W, Below w.heap.size w W → Calls Tryz.prog 48 #[.slice A l.length c, .int .i64 i] W fun e w' => ∃ v : Value, e = .returned v ∧ Kd.N k56 56 w' W.heap.size (fun _ => True) v RS ∧ Below W.heap.size W w') := ⟨by rw [← hRS]; exact fun W hB => rules5_walk' A c l i W (Kd.C_below HR.out hB) HC.out hil (by omega) (fun x hx => (HOK.out x hx).2)⟩
   have HB10 := Aside0.mk hb10
   clear hb1 hb2 hb3 hb4 hb7 hb8 hb10 hRS HOX
   obtain ⟨okv, hokv⟩ : ∃ okv, locOk l i x = okv := ⟨_, rfl⟩
   rw [hokv] at HB HE1
   clear hokv
   subst hA
   have hcase : (b1 = false ∧ okv = false) ∨ (b1 = true ∧ b2 = true ∧ okv = false) ∨ (b1 = true ∧ b2 = false ∧ b3 = false ∧ okv = false) ∨ (b1 = true ∧ b2 = false ∧ b3 = true ∧ b4 = false ∧ okv = false) ∨ (b1 = true ∧ b2 = false ∧ b3 = true ∧ b4 = true ∧ b5 = true ∧ okv = false) ∨ (b1 = true ∧ b2 = false ∧ b3 = true ∧ b4 = true ∧ b5 = false ∧ b6 = true ∧ okv = false) ∨ (b1 = true ∧ b2 = false ∧ b3 = true ∧ b4 = true ∧ b5 = false ∧ b6 = false ∧ b7 = false ∧ okv = false) ∨ (b1 = true ∧ b2 = false ∧ b3 = true ∧ b4 = true ∧ b5 = false ∧ b6 = false ∧ b7 = true ∧ b8 = false ∧ okv = false) ∨ (b1 = true ∧ b2 = false ∧ b3 = true ∧ b4 = true ∧ b5 = false ∧ b6 = false ∧ b7 = true ∧ b8 = true ∧ b9 = true ∧ okv = false) ∨ (b1 = true ∧ b2 = false ∧ b3 = true ∧ b4 = true ∧ b5 = false ∧ b6 = false ∧ b7 = true ∧ b8 = true ∧ b9 = false ∧ b10 = false ∧ okv = false) ∨ (b1 = true ∧ b2 = false ∧ b3 = true ∧ b4 = true ∧ b5 = false ∧ b6 = false ∧ b7 = true ∧ b8 = true ∧ b9 = false ∧ b10 = true ∧ okv = true) := by
    have h := HB.out
    clear HB10 hb5 hb6 hb9 hb5' hb6' hb9' H1 H2 H3 H4 H7 H8 H9 HE1
    subst h
    cases b1 <;> cases b2 <;> cases b3 <;> cases b4 <;> try (simp; done)
    all_goals (cases b5 <;> cases b6 <;> cases b7 <;> cases b8 <;> cases b9 <;> cases b10 <;> simp)
   clear HB
   rcases hcase with ⟨rfl, rfl⟩ | ⟨rfl, rfl, rfl⟩ | ⟨rfl, rfl, rfl, rfl⟩ | ⟨rfl, rfl, rfl, rfl, rfl⟩ | ⟨rfl, rfl, rfl, rfl, rfl, rfl⟩ | ⟨rfl, rfl, rfl, rfl, rfl, rfl, rfl⟩ | ⟨rfl, rfl, rfl, rfl, rfl, rfl, rfl, rfl⟩ | ⟨rfl, rfl, rfl, rfl, rfl, rfl, rfl, rfl, rfl⟩ | ⟨rfl, rfl, rfl, rfl, rfl, rfl, rfl, rfl, rfl, rfl⟩ | ⟨rfl, rfl, rfl, rfl, rfl, rfl, rfl, rfl, rfl, rfl, rfl⟩ | ⟨rfl, rfl, rfl, rfl, rfl, rfl, rfl, rfl, rfl, rfl, rfl⟩
   all_goals
    first | (have HG : Aside0 (r = false) := ⟨HE1.out⟩) | (have HG : Aside0 (r = rightFrom l (l.length - (i + 1)) (i + 1)) := ⟨HE1.out⟩)
    clear HE1
    go_wp2_with fail
    generalize wr.alloc (.cells #[.string x.f0, .int .i64 x.f1, .int .i64 x.f2, .slice A3 x.f3.length c3, .slice A4 x.f4.length c4, .slice A5 x.f5.length c5] 44) = W0 at *
    generalize wr.heap.size = g at *
    clear h0 h1 h2 h3 h4 h5
    refine H2.out.mono ?_
    rintro e w1 ⟨rfl, hB⟩
    have HK1 := Aside0.mk (blk_below HK0.out hB)
    have HB1 : Aside0 (Below w.heap.size w w1) := ⟨below_step HB0.out hB⟩
    have hc1_0 : w1.cell? ⟨g, 0, none⟩ = some (.string x.f0) := (blk_cell HK1.out 0).trans rfl; have hc1_1 : w1.cell? ⟨g, 1, none⟩ = some (.int .i64 x.f1) := (blk_cell HK1.out 1).trans rfl; have hc1_2 : w1.cell? ⟨g, 2, none⟩ = some (.int .i64 x.f2) := (blk_cell HK1.out 2).trans rfl; have hc1_3 : w1.cell? ⟨g, 3, none⟩ = some (.slice A3 x.f3.length c3) := (blk_cell HK1.out 3).trans rfl; have hc1_4 : w1.cell? ⟨g, 4, none⟩ = some (.slice A4 x.f4.length c4) := (blk_cell HK1.out 4).trans rfl; have hc1_5 : w1.cell? ⟨g, 5, none⟩ = some (.slice A5 x.f5.length c5) := (blk_cell HK1.out 5).trans rfl
    clear hB H2
    go_wp2_with (first | (go_at_call 41; with_reducible refine (H1.out _).mono ?_; rintro e w2 ⟨rfl, hB⟩; have HK2 := Aside0.mk (blk_below HK1.out hB); have HB2 : Aside0 (Below w.heap.size w w2) := ⟨below_step HB1.out hB⟩; clear hB; clear hc1_0; clear hc1_1; clear hc1_2; clear hc1_3; clear hc1_4; clear hc1_5; have hc2_0 : w2.cell? ⟨g, 0, none⟩ = some (.string x.f0) := (blk_cell HK2.out 0).trans rfl; have hc2_1 : w2.cell? ⟨g, 1, none⟩ = some (.int .i64 x.f1) := (blk_cell HK2.out 1).trans rfl; have hc2_2 : w2.cell? ⟨g, 2, none⟩ = some (.int .i64 x.f2) := (blk_cell HK2.out 2).trans rfl; have hc2_3 : w2.cell? ⟨g, 3, none⟩ = some (.slice A3 x.f3.length c3) := (blk_cell HK2.out 3).trans rfl; have hc2_4 : w2.cell? ⟨g, 4, none⟩ = some (.slice A4 x.f4.length c4) := (blk_cell HK2.out 4).trans rfl; have hc2_5 : w2.cell? ⟨g, 5, none⟩ = some (.slice A5 x.f5.length c5) := (blk_cell HK2.out 5).trans rfl) | (go_at_call 42; with_reducible refine (H3.out _).mono ?_; rintro e w3 ⟨rfl, hB⟩; have HK3 := Aside0.mk (blk_below HK2.out hB); have HB3 : Aside0 (Below w.heap.size w w3) := ⟨below_step HB2.out hB⟩; clear hB; clear hc2_0; clear hc2_1; clear hc2_2; clear hc2_3; clear hc2_4; clear hc2_5; have hc3_0 : w3.cell? ⟨g, 0, none⟩ = some (.string x.f0) := (blk_cell HK3.out 0).trans rfl; have hc3_1 : w3.cell? ⟨g, 1, none⟩ = some (.int .i64 x.f1) := (blk_cell HK3.out 1).trans rfl; have hc3_2 : w3.cell? ⟨g, 2, none⟩ = some (.int .i64 x.f2) := (blk_cell HK3.out 2).trans rfl; have hc3_3 : w3.cell? ⟨g, 3, none⟩ = some (.slice A3 x.f3.length c3) := (blk_cell HK3.out 3).trans rfl; have hc3_4 : w3.cell? ⟨g, 4, none⟩ = some (.slice A4 x.f4.length c4) := (blk_cell HK3.out 4).trans rfl; have hc3_5 : w3.cell? ⟨g, 5, none⟩ = some (.slice A5 x.f5.length c5) := (blk_cell HK3.out 5).trans rfl) | (go_at_call 42; with_reducible refine (H4.out _).mono ?_; rintro e w4 ⟨rfl, hB⟩; have HK4 := Aside0.mk (blk_below HK3.out hB); have HB4 : Aside0 (Below w.heap.size w w4) := ⟨below_step HB3.out hB⟩; clear hB; clear hc3_0; clear hc3_1; clear hc3_2; clear hc3_3; clear hc3_4; clear hc3_5; have hc4_0 : w4.cell? ⟨g, 0, none⟩ = some (.string x.f0) := (blk_cell HK4.out 0).trans rfl; have hc4_1 : w4.cell? ⟨g, 1, none⟩ = some (.int .i64 x.f1) := (blk_cell HK4.out 1).trans rfl; have hc4_2 : w4.cell? ⟨g, 2, none⟩ = some (.int .i64 x.f2) := (blk_cell HK4.out 2).trans rfl; have hc4_3 : w4.cell? ⟨g, 3, none⟩ = some (.slice A3 x.f3.length c3) := (blk_cell HK4.out 3).trans rfl; have hc4_4 : w4.cell? ⟨g, 4, none⟩ = some (.slice A4 x.f4.length c4) := (blk_cell HK4.out 4).trans rfl; have hc4_5 : w4.cell? ⟨g, 5, none⟩ = some (.slice A5 x.f5.length c5) := (blk_cell HK4.out 5).trans rfl) | (go_at_call 43; with_reducible refine (H7.out _ HB4.out).mono ?_; rintro e w5 ⟨rfl, hB⟩; have HK5 := Aside0.mk (blk_below HK4.out hB); have HB5 : Aside0 (Below w.heap.size w w5) := ⟨below_step HB4.out hB⟩; clear hB; clear hc4_0; clear hc4_1; clear hc4_2; clear hc4_3; clear hc4_4; clear hc4_5; have hc5_0 : w5.cell? ⟨g, 0, none⟩ = some (.string x.f0) := (blk_cell HK5.out 0).trans rfl; have hc5_1 : w5.cell? ⟨g, 1, none⟩ = some (.int .i64 x.f1) := (blk_cell HK5.out 1).trans rfl; have hc5_2 : w5.cell? ⟨g, 2, none⟩ = some (.int .i64 x.f2) := (blk_cell HK5.out 2).trans rfl; have hc5_3 : w5.cell? ⟨g, 3, none⟩ = some (.slice A3 x.f3.length c3) := (blk_cell HK5.out 3).trans rfl; have hc5_4 : w5.cell? ⟨g, 4, none⟩ = some (.slice A4 x.f4.length c4) := (blk_cell HK5.out 4).trans rfl; have hc5_5 : w5.cell? ⟨g, 5, none⟩ = some (.slice A5 x.f5.length c5) := (blk_cell HK5.out 5).trans rfl) | (go_at_call 45; with_reducible refine (H8.out _ HB5.out).mono ?_; rintro e w6 ⟨rfl, hB⟩; have HK6 := Aside0.mk (blk_below HK5.out hB); have HB6 : Aside0 (Below w.heap.size w w6) := ⟨below_step HB5.out hB⟩; clear hB; clear hc5_0; clear hc5_1; clear hc5_2; clear hc5_3; clear hc5_4; clear hc5_5; have hc6_0 : w6.cell? ⟨g, 0, none⟩ = some (.string x.f0) := (blk_cell HK6.out 0).trans rfl; have hc6_1 : w6.cell? ⟨g, 1, none⟩ = some (.int .i64 x.f1) := (blk_cell HK6.out 1).trans rfl; have hc6_2 : w6.cell? ⟨g, 2, none⟩ = some (.int .i64 x.f2) := (blk_cell HK6.out 2).trans rfl; have hc6_3 : w6.cell? ⟨g, 3, none⟩ = some (.slice A3 x.f3.length c3) := (blk_cell HK6.out 3).trans rfl; have hc6_4 : w6.cell? ⟨g, 4, none⟩ = some (.slice A4 x.f4.length c4) := (blk_cell HK6.out 4).trans rfl; have hc6_5 : w6.cell? ⟨g, 5, none⟩ = some (.slice A5 x.f5.length c5) := (blk_cell HK6.out 5).trans rfl) | (go_at_call 48; with_reducible refine (H9.out _ HB6.out).mono ?_; rintro e w7 ⟨v7, rfl, hN7, hB⟩; have HK7 := Aside0.mk (blk_below HK6.out hB); have HB7 : Aside0 (Below w.heap.size w w7) := ⟨below_step HB6.out hB⟩; obtain ⟨A7, c7, hs7⟩ := Kd.N_slice hN7; subst hs7; have hcw := check_walk A7 c7 RS w7 (Kd.N_reads' hN7).2.2 (Kd.N_reads' hN7).2.1; rw [HB10.out] at hcw; have HC7 := Aside0.mk hcw; clear hB hN7 hcw; clear hc6_0; clear hc6_1; clear hc6_2; clear hc6_3; clear hc6_4; clear hc6_5) | (go_at_call 47; with_reducible refine (HC7.out).mono ?_; rintro e w8 ⟨rfl, hB⟩; have HK8 := Aside0.mk (blk_below HK7.out hB); have HB8 : Aside0 (Below w.heap.size w w8) := ⟨below_step HB7.out hB⟩; clear hB))
    first
     | (go_ret; rw [HG.out]; first | exact ⟨rfl, HB8.out⟩ | exact ⟨rfl, HB7.out⟩ | exact ⟨rfl, HB6.out⟩ | exact ⟨rfl, HB5.out⟩ | exact ⟨rfl, HB4.out⟩ | exact ⟨rfl, HB3.out⟩ | exact ⟨rfl, HB2.out⟩ | exact ⟨rfl, HB1.out⟩)
     | skip
   go_roundg (l.length - (i + 1))
   case measure => omega
   case rel => exact ⟨i + 1, by omega, by omega, by go_num, HG, HB8⟩
  ·have he : i = l.length := by omega
   have hilz : decide ((i : Int) < (l.length : Int)) = false := by simp; omega
   have HG : Aside0 (r = true) := ⟨by rw [HE.out, he, Nat.sub_self]; rfl⟩
   clear he
   go_wp2
   go_ret
   rw [HG.out]
   exact ⟨rfl, HW.out⟩
end Go.Proofs.YtiocgaekoeekgaaGreat.P
end
section
namespace Go.Proofs.YtiocgaekoeekgaaGreat.P
open Go.RowKit Go.Proofs.YtiocgaekoeekgaaGreatW.PrintWords Go.Proofs.YtiocgaekoeekgaaGreatW.PrintLast Go.Proofs.YtiocgaekoeekgaaGreatW.PrintMore
attribute [local go_sem] max2_int min2_int max_two min_two max_three min_three max_four min_four   
set_option linter.unusedVariables false
set_option linter.unusedSimpArgs false
attribute [local go_sem] Oper.semAt_some
theorem Kd.R_of_room {α : Type} {d : Kd α} {e b : Nat} {ok : Nat → Prop} (w w0 : World) (hw : w0.heap.size = w.heap.size) (hb : b ≤ w.heap.size) (hok : ok w.heap.size) (cs : Array Value) (cap : Nat) (hcs : cs.size = cap * d.sz) (hcap : cap ≤ maxLen) : d.R e (w0.alloc (.cells cs e)) b ok (.slice (some ⟨w.heap.size, 0, none⟩) 0 cap) [] := by
 rw [← hw] at *
 exact ⟨fun k hk => by
  have : k = w0.heap.size := by simpa [Value.ownBlock] using hk.symm
  rw [this]; exact hok, [], ⟨by simp, .inr ⟨w0.heap.size, cap, cs, rfl, hb, blk_new w0 _, Nat.zero_le _, hcap, hcs, by simp⟩⟩, Reps.none _ _⟩
theorem Kd.S_of_none {α : Type} {d : Kd α} {e b : Nat} {ok : Nat → Prop} {w : World} {v : Value} (h : d.R e w b ok v []) : Kd.S d e w b ok v [] := by
 obtain ⟨h0, inner, ho, hr⟩ := h
 exact ⟨fun _ => 0, h0, inner, ho, hr.1, fun j p hj => by simp at hj⟩
set_option maxHeartbeats 4000000 in
set_option maxRecDepth 100000 in
theorem growE_walk (n : Nat) (w : World) (hn : n ≤ 1000000) :
  Calls Tryz.prog 113 #[.slice none 0 0, .int .i64 n] w fun e w' => ∃ v, e = .returned v ∧ Kd.R k46 46 w' w.heap.size (fun k => w.heap.size ≤ k) v [] ∧ Below w.heap.size w w' := by
 have hHn := Aside0.mk hn
 have hneg : decide ((n : Int) < 0) = false := decide_eq_false (by omega)
 have hw0 : wrap64 ((0 : Int) - 0) = 0 := by unfold wrap64; omega
 have hw1 : wrap64 ((n : Int) - 0) = (n : Int) := by rw [wrap64]; omega
 have hw2 : wrap64 (n : Int) = (n : Int) := by rw [wrap64]; omega
 by_cases h0 : n = 0
 ·subst h0
  clear hn
  go_enter Tryz.func113, Tryz.ntmps113
  go_wp2
  go_ret
  exact ⟨_, rfl, Kd.R_nil _ _ _ _ _, Below.refl _ _⟩
 ·have hpos : 0 < n := by omega
  have hpz : decide ((0 : Int) < (n : Int)) = true := decide_eq_true (by omega)
  have hpz' : decide (0 < n) = true := decide_eq_true hpos
  obtain ⟨i0, hi, hz0, hz1, hz2⟩ := info_parts info46
  have hrun := Lib.run_append_nil_zeros (P := Tryz.prog) w 40 3 40 46 i0 (.agg #[.string ⟨#[]⟩, .int .i64 0, .int .i64 0]) .i64 .i64 Tryz.underlying40 Tryz.underlying3 hi hz0 n hpos (by rw [hz1]; decide) (by omega) (by rw [hz2]; omega)
  have hge := grownCap_ge w n 0 46
  have hml := grownCap_le_maxLen w n 0 46 (by unfold maxLen; omega)
  have HSZ : Aside0 ((Builtin.zeroCells (.agg #[.string ⟨#[]⟩, .int .i64 0, .int .i64 0] : Value).cells n ++ Builtin.zeroCells (.agg #[.string ⟨#[]⟩, .int .i64 0, .int .i64 0] : Value).cells (grownCap w n 0 46 - n)).size = grownCap w n 0 46 * (Kd.sz k46)) := ⟨by
   show _ = grownCap w n 0 46 * 3
   simp only [Array.size_append, size_zeroCells]
   show n * 3 + (grownCap w n 0 46 - n) * 3 = _
   rw [← Nat.add_mul]
   congr 1
   omega⟩
  generalize Builtin.zeroCells (.agg #[.string ⟨#[]⟩, .int .i64 0, .int .i64 0] : Value).cells n ++ Builtin.zeroCells (.agg #[.string ⟨#[]⟩, .int .i64 0, .int .i64 0] : Value).cells (grownCap w n 0 46 - n) = cs at *
  generalize grownCap w n 0 46 = cap at *
  have HRUN := Aside0.mk hrun
  have HML := Aside0.mk hml
  have hcap : (0 : Int) ≤ (cap : Int) := by omega
  clear hrun hml hi hz0 hz1 hz2 hge hn h0
  go_enter Tryz.func113, Tryz.ntmps113
  go_wp2_with (at_builtin; go_loud (refine Lib.wpList_append_run _ rfl (.tmp 20) (.tmp 21) 40 3 rfl (.slice none 0 0) (.int .i64 (n : Int)) rfl (congrArg (Value.int .i64) hw2) _ _ HRUN.out ?_))
  go_ret
  exact ⟨_, rfl, Kd.R_of_room w w.drew rfl (Nat.le_refl _) (Nat.le_refl _) cs cap HSZ.out HML.out, below_alloc (below_drew1 (Below.refl _ _)) _⟩
set_option maxHeartbeats 4000000 in
set_option maxRecDepth 100000 in
theorem growS_walk (n : Nat) (w : World) (hn : n ≤ 1000000) :
  Calls Tryz.prog 114 #[.slice none 0 0, .int .i64 n] w fun e w' => ∃ v, e = .returned v ∧ Kd.R k52 52 w' w.heap.size (fun k => w.heap.size ≤ k) v [] ∧ Below w.heap.size w w' := by
 have hHn := Aside0.mk hn
 have hneg : decide ((n : Int) < 0) = false := decide_eq_false (by omega)
 have hw0 : wrap64 ((0 : Int) - 0) = 0 := by unfold wrap64; omega
 have hw1 : wrap64 ((n : Int) - 0) = (n : Int) := by rw [wrap64]; omega
 have hw2 : wrap64 (n : Int) = (n : Int) := by rw [wrap64]; omega
 by_cases h0 : n = 0
 ·subst h0
  clear hn
  go_enter Tryz.func114, Tryz.ntmps114
  go_wp2
  go_ret
  exact ⟨_, rfl, Kd.R_nil _ _ _ _ _, Below.refl _ _⟩
 ·have hpos : 0 < n := by omega
  have hpz : decide ((0 : Int) < (n : Int)) = true := decide_eq_true (by omega)
  have hpz' : decide (0 < n) = true := decide_eq_true hpos
  obtain ⟨i0, hi, hz0, hz1, hz2⟩ := info_parts info52
  have hrun := Lib.run_append_nil_zeros (P := Tryz.prog) w 42 3 42 52 i0 (.agg #[.int .i64 0, .slice none 0 0]) .i64 .i64 Tryz.underlying42 Tryz.underlying3 hi hz0 n hpos (by rw [hz1]; decide) (by omega) (by rw [hz2]; omega)
  have hge := grownCap_ge w n 0 52
  have hml := grownCap_le_maxLen w n 0 52 (by unfold maxLen; omega)
  have HSZ : Aside0 ((Builtin.zeroCells (.agg #[.int .i64 0, .slice none 0 0] : Value).cells n ++ Builtin.zeroCells (.agg #[.int .i64 0, .slice none 0 0] : Value).cells (grownCap w n 0 52 - n)).size = grownCap w n 0 52 * (Kd.sz k52)) := ⟨by
   show _ = grownCap w n 0 52 * 2
   simp only [Array.size_append, size_zeroCells]
   show n * 2 + (grownCap w n 0 52 - n) * 2 = _
   rw [← Nat.add_mul]
   congr 1
   omega⟩
  generalize Builtin.zeroCells (.agg #[.int .i64 0, .slice none 0 0] : Value).cells n ++ Builtin.zeroCells (.agg #[.int .i64 0, .slice none 0 0] : Value).cells (grownCap w n 0 52 - n) = cs at *
  generalize grownCap w n 0 52 = cap at *
  have HRUN := Aside0.mk hrun
  have HML := Aside0.mk hml
  have hcap : (0 : Int) ≤ (cap : Int) := by omega
  clear hrun hml hi hz0 hz1 hz2 hge hn h0
  go_enter Tryz.func114, Tryz.ntmps114
  go_wp2_with (at_builtin; go_loud (refine Lib.wpList_append_run _ rfl (.tmp 20) (.tmp 21) 42 3 rfl (.slice none 0 0) (.int .i64 (n : Int)) rfl (congrArg (Value.int .i64) hw2) _ _ HRUN.out ?_))
  go_ret
  exact ⟨_, rfl, Kd.R_of_room w w.drew rfl (Nat.le_refl _) (Nat.le_refl _) cs cap HSZ.out HML.out, below_alloc (below_drew1 (Below.refl _ _)) _⟩
set_option maxHeartbeats 4000000 in
set_option maxRecDepth 100000 in
theorem concatE_walk (g : Nat) (A1 A2 : Option Addr) (c1 c2 : Nat) (l1 l2 : List S46) (w : World) (hg0 : w.cell? ⟨g, 0, none⟩ = some (.slice A1 l1.length c1)) (hg1 : w.cell? ⟨g, 1, none⟩ = some (.slice A2 l2.length c2)) (h1 : Kd.C k46 w A1 l1.length l1) (h2 : Kd.C k46 w A2 l2.length l2) (hn : l1.length + l2.length ≤ 1000000) :
  Calls Tryz.prog 61 #[.slice (some ⟨g, 0, none⟩) 2 2] w fun e w' => ∃ v, e = .returned v ∧ Kd.R k46 46 w' w.heap.size (fun k => w.heap.size ≤ k) v (l1 ++ l2) ∧ Below w.heap.size w w' := by
 have HN := Aside0.mk hn
 have HC1 := Aside0.mk h1
 have HC2 := Aside0.mk h2
 have HG0 := Aside0.mk hg0
 have HG1 := Aside0.mk hg1
 have hw1 : wrap64 ((0 : Int) + (l1.length : Int)) = (l1.length : Int) := by rw [wrap64]; omega
 have hw1' : wrap64 (l1.length : Int) = (l1.length : Int) := by rw [wrap64]; omega
 have hw2 : wrap64 ((l1.length : Int) + (l2.length : Int)) = ((l1.length + l2.length : Nat) : Int) := by rw [wrap64]; omega
 have hn1 : decide ((l1.length : Int) < 0) = false := decide_eq_false (by omega)
 have hn2 : decide (((l1.length + l2.length : Nat) : Int) < 0) = false := decide_eq_false (by omega)
 clear hn h1 h2 hg0 hg1
 go_enter Tryz.func61, Tryz.ntmps61
 go_wp2
 go_loopg [11, 3] 2 (fun gg s11 s3 wr => ∃ i m : Nat, 2 - i ≤ gg ∧ s11 = .int .i64 i ∧ s3 = .int .i64 m ∧ ((i = 0 ∧ m = 0) ∨ (i = 1 ∧ m = l1.length) ∨ (i = 2 ∧ m = l1.length + l2.length)) ∧ Aside0 (Below w.heap.size w wr))
 case atStart => exact ⟨0, 0, by omega, rfl, rfl, .inl ⟨rfl, rfl⟩, ⟨Below.refl _ _⟩⟩
 case round =>
  obtain ⟨i, m, hgg, rfl, rfl, hcs, HW⟩ := hrel
  rcases hcs with ⟨rfl, rfl⟩ | ⟨rfl, rfl⟩ | ⟨rfl, rfl⟩
  ·have r0 := pw_cell_below HW.out HG0.out
   go_wp2
   go_roundg 1
   case measure => omega
   case rel => exact ⟨1, l1.length, by omega, by go_num, by first | rfl | (simp [hw1]; done) | go_num, .inr (.inl ⟨rfl, rfl⟩), HW⟩
  ·have r1 := pw_cell_below HW.out HG1.out
   go_wp2
   go_roundg 0
   case measure => omega
   case rel => exact ⟨2, l1.length + l2.length, by omega, by go_num, by first | rfl | (simp [hw2]; done) | go_num, .inr (.inr ⟨rfl, rfl⟩), HW⟩
  ·have HGR := Aside0.mk (growE_walk (l1.length + l2.length) wr HN.out)
   clear hn1 hn2 hw1 hw1' hw2
   go_wp2_with fail
   refine HGR.out.mono ?_
   rintro e w2 ⟨v, rfl, hR, hB⟩
   have HR0 := Aside0.mk (Kd.R_mono (ok' := fun k => w.heap.size ≤ k) (Kd.R_lower hR HW.out.size) (fun k hk => Nat.le_trans HW.out.size hk))
   have HW2 : Aside0 (Below w.heap.size w w2) := ⟨below_step HW.out hB⟩
   clear hR hB HGR
   go_wp2
   go_loopg [27, 6] 2 (fun gg s27 s6 wr => ∃ (i : Nat) (xs : List S46), 2 - i ≤ gg ∧ s27 = .int .i64 i ∧ ((i = 0 ∧ xs = []) ∨ (i = 1 ∧ xs = l1) ∨ (i = 2 ∧ xs = l1 ++ l2)) ∧ Aside0 (Kd.R k46 46 wr w.heap.size (fun k => w.heap.size ≤ k) s6 xs) ∧ Aside0 (Below w.heap.size w wr))
   case atStart => exact ⟨0, [], by omega, rfl, .inl ⟨rfl, rfl⟩, HR0, HW2⟩
   case round =>
    clear HR0 HW2
    obtain ⟨i, xs, hgg, rfl, hcs, HR, HW⟩ := hrel
    obtain ⟨A6, c6, hs6⟩ := Kd.R_slice HR.out
    subst hs6
    rcases hcs with ⟨rfl, rfl⟩ | ⟨rfl, rfl⟩ | ⟨rfl, rfl⟩
    ·have r0 := pw_cell_below HW.out HG0.out
     have HCC := Aside0.mk (Kd.C_below HC1.out HW.out)
     go_wp2_with (at_builtin; go_loud (refine Kd.R_append_rows k46 (w0 := w) w.heap.size rfl (.tmp 31) (.tmp 32) 40 46 (.agg #[.string ⟨#[]⟩, .int .i64 0, .int .i64 0]) 32 rfl Tryz.underlying40 (by kernel_rfl) rfl (by show 0 < 3; decide) (by decide) (.slice A6 0 c6) [] l1 A1 l1.length c1 (fun k => w.heap.size ≤ k) (fun _ => False) rfl rfl HR.out HCC.out (fun _ _ h => h) (fun _ h => h.elim) (fun k hk => Nat.le_trans HW.out.size hk) HW.out HW.out.size (by have := HN.out; simp; omega) ?_); intro v1 w1 ho hb hg hat)
     have ho' : Kd.R k46 46 w1 w.heap.size (fun k => w.heap.size ≤ k) v1 l1 := ho
     have HR1 := Aside0.mk ho'
     have HW1 := Aside0.mk hb
     clear ho ho' hb hg hat HR HCC
     go_wp2
     go_roundg 1
     case measure => omega
     case rel => exact ⟨1, l1, by omega, by go_num, .inr (.inl ⟨rfl, rfl⟩), HR1, HW1⟩
    ·have r1 := pw_cell_below HW.out HG1.out
     have HCC := Aside0.mk (Kd.C_below HC2.out HW.out)
     go_wp2_with (at_builtin; go_loud (refine Kd.R_append_rows k46 (w0 := w) w.heap.size rfl (.tmp 31) (.tmp 32) 40 46 (.agg #[.string ⟨#[]⟩, .int .i64 0, .int .i64 0]) 32 rfl Tryz.underlying40 (by kernel_rfl) rfl (by show 0 < 3; decide) (by decide) (.slice A6 xs.length c6) xs l2 A2 l2.length c2 (fun k => w.heap.size ≤ k) (fun _ => False) rfl rfl HR.out HCC.out (fun _ _ h => h) (fun _ h => h.elim) (fun k hk => Nat.le_trans HW.out.size hk) HW.out HW.out.size (by have := HN.out; omega) ?_); intro v1 w1 ho hb hg hat)
     have HR1 := Aside0.mk ho
     have HW1 := Aside0.mk hb
     clear ho hb hg hat HR HCC
     go_wp2
     go_roundg 0
     case measure => omega
     case rel => exact ⟨2, xs ++ l2, by omega, by go_num, .inr (.inr ⟨rfl, rfl⟩), HR1, HW1⟩
    ·go_wp2
     go_ret
     exact ⟨_, rfl, HR.out, HW.out⟩
set_option maxHeartbeats 4000000 in
set_option maxRecDepth 100000 in
theorem concatS_walk (g : Nat) (A1 A2 : Option Addr) (c1 c2 : Nat) (l1 l2 : List S52) (w : World) (hg0 : w.cell? ⟨g, 0, none⟩ = some (.slice A1 l1.length c1)) (hg1 : w.cell? ⟨g, 1, none⟩ = some (.slice A2 l2.length c2)) (h1 : ∀ W, ReadsRow (Kd.M k52 W w.heap.size (fun _ => False)) (Kd.sz k52) W A1 l1.length l1) (h2 : ∀ W, ReadsRow (Kd.M k52 W w.heap.size (fun _ => False)) (Kd.sz k52) W A2 l2.length l2) (hn : l1.length + l2.length ≤ 1000000) :
  Calls Tryz.prog 62 #[.slice (some ⟨g, 0, none⟩) 2 2] w fun e w' => ∃ v, e = .returned v ∧ Kd.R k52 52 w' w.heap.size (fun k => w.heap.size ≤ k) v (l1 ++ l2) ∧ Below w.heap.size w w' := by
 have HN := Aside0.mk hn
 have HC1 := Aside0.mk h1
 have HC2 := Aside0.mk h2
 have HG0 := Aside0.mk hg0
 have HG1 := Aside0.mk hg1
 have hw1 : wrap64 ((0 : Int) + (l1.length : Int)) = (l1.length : Int) := by rw [wrap64]; omega
 have hw1' : wrap64 (l1.length : Int) = (l1.length : Int) := by rw [wrap64]; omega
 have hw2 : wrap64 ((l1.length : Int) + (l2.length : Int)) = ((l1.length + l2.length : Nat) : Int) := by rw [wrap64]; omega
 have hn1 : decide ((l1.length : Int) < 0) = false := decide_eq_false (by omega)
 have hn2 : decide (((l1.length + l2.length : Nat) : Int) < 0) = false := decide_eq_false (by omega)
 clear hn h1 h2 hg0 hg1
 go_enter Tryz.func62, Tryz.ntmps62
 go_wp2
 go_loopg [11, 3] 2 (fun gg s11 s3 wr => ∃ i m : Nat, 2 - i ≤ gg ∧ s11 = .int .i64 i ∧ s3 = .int .i64 m ∧ ((i = 0 ∧ m = 0) ∨ (i = 1 ∧ m = l1.length) ∨ (i = 2 ∧ m = l1.length + l2.length)) ∧ Aside0 (Below w.heap.size w wr))
 case atStart => exact ⟨0, 0, by omega, rfl, rfl, .inl ⟨rfl, rfl⟩, ⟨Below.refl _ _⟩⟩
 case round =>
  obtain ⟨i, m, hgg, rfl, rfl, hcs, HW⟩ := hrel
  rcases hcs with ⟨rfl, rfl⟩ | ⟨rfl, rfl⟩ | ⟨rfl, rfl⟩
  ·have r0 := pw_cell_below HW.out HG0.out
   go_wp2
   go_roundg 1
   case measure => omega
   case rel => exact ⟨1, l1.length, by omega, by go_num, by first | rfl | (simp [hw1]; done) | go_num, .inr (.inl ⟨rfl, rfl⟩), HW⟩
  ·have r1 := pw_cell_below HW.out HG1.out
   go_wp2
   go_roundg 0
   case measure => omega
   case rel => exact ⟨2, l1.length + l2.length, by omega, by go_num, by first | rfl | (simp [hw2]; done) | go_num, .inr (.inr ⟨rfl, rfl⟩), HW⟩
  ·have HGR := Aside0.mk (growS_walk (l1.length + l2.length) wr HN.out)
   clear hn1 hn2 hw1 hw1' hw2
   go_wp2_with fail
   refine HGR.out.mono ?_
   rintro e w2 ⟨v, rfl, hR, hB⟩
   have HR0 := Aside0.mk (Kd.R_mono (ok' := fun k => w.heap.size ≤ k) (Kd.R_lower hR HW.out.size) (fun k hk => Nat.le_trans HW.out.size hk))
   have HW2 : Aside0 (Below w.heap.size w w2) := ⟨below_step HW.out hB⟩
   clear hR hB HGR
   go_wp2
   go_loopg [27, 6] 2 (fun gg s27 s6 wr => ∃ (i : Nat) (xs : List S52), 2 - i ≤ gg ∧ s27 = .int .i64 i ∧ ((i = 0 ∧ xs = []) ∨ (i = 1 ∧ xs = l1) ∨ (i = 2 ∧ xs = l1 ++ l2)) ∧ Aside0 (Kd.R k52 52 wr w.heap.size (fun k => w.heap.size ≤ k) s6 xs) ∧ Aside0 (Below w.heap.size w wr))
   case atStart => exact ⟨0, [], by omega, rfl, .inl ⟨rfl, rfl⟩, HR0, HW2⟩
   case round =>
    clear HR0 HW2
    obtain ⟨i, xs, hgg, rfl, hcs, HR, HW⟩ := hrel
    obtain ⟨A6, c6, hs6⟩ := Kd.R_slice HR.out
    subst hs6
    rcases hcs with ⟨rfl, rfl⟩ | ⟨rfl, rfl⟩ | ⟨rfl, rfl⟩
    ·have r0 := pw_cell_below HW.out HG0.out
     have HCC := Aside0.mk (HC1.out wr)
     go_wp2_with (at_builtin; go_loud (refine Kd.R_append_rows k52 (w0 := w) w.heap.size rfl (.tmp 31) (.tmp 32) 42 52 (.agg #[.int .i64 0, .slice none 0 0]) 32 rfl Tryz.underlying42 (by kernel_rfl) rfl (by show 0 < 2; decide) (by decide) (.slice A6 0 c6) [] l1 A1 l1.length c1 (fun k => w.heap.size ≤ k) (fun _ => False) rfl rfl HR.out HCC.out (fun _ _ h => h) (fun _ h => h.elim) (fun k hk => Nat.le_trans HW.out.size hk) HW.out HW.out.size (by have := HN.out; simp; omega) ?_); intro v1 w1 ho hb hg hat)
     have ho' : Kd.R k52 52 w1 w.heap.size (fun k => w.heap.size ≤ k) v1 l1 := ho
     have HR1 := Aside0.mk ho'
     have HW1 := Aside0.mk hb
     clear ho ho' hb hg hat HR HCC
     go_wp2
     go_roundg 1
     case measure => omega
     case rel => exact ⟨1, l1, by omega, by go_num, .inr (.inl ⟨rfl, rfl⟩), HR1, HW1⟩
    ·have r1 := pw_cell_below HW.out HG1.out
     have HCC := Aside0.mk (HC2.out wr)
     go_wp2_with (at_builtin; go_loud (refine Kd.R_append_rows k52 (w0 := w) w.heap.size rfl (.tmp 31) (.tmp 32) 42 52 (.agg #[.int .i64 0, .slice none 0 0]) 32 rfl Tryz.underlying42 (by kernel_rfl) rfl (by show 0 < 2; decide) (by decide) (.slice A6 xs.length c6) xs l2 A2 l2.length c2 (fun k => w.heap.size ≤ k) (fun _ => False) rfl rfl HR.out HCC.out (fun _ _ h => h) (fun _ h => h.elim) (fun k hk => Nat.le_trans HW.out.size hk) HW.out HW.out.size (by have := HN.out; omega) ?_); intro v1 w1 ho hb hg hat)
     have HR1 := Aside0.mk ho
     have HW1 := Aside0.mk hb
     clear ho hb hg hat HR HCC
     go_wp2
     go_roundg 0
     case measure => omega
     case rel => exact ⟨2, xs ++ l2, by omega, by go_num, .inr (.inr ⟨rfl, rfl⟩), HR1, HW1⟩
    ·go_wp2
     go_ret
     exact ⟨_, rfl, HR.out, HW.out⟩
theorem rows_nil {α : Type} {R : α → List Value → Prop} {sz : Nat} {w : World} {A : Option Addr} : ReadsRow R sz w A ([] : List α).length [] := ⟨rfl, by simp, fun h => absurd h (by simp)⟩
set_option maxHeartbeats 4000000 in
set_option maxRecDepth 100000 in
theorem concatS_nil (g : Nat) (A1 A2 : Option Addr) (c1 c2 : Nat) (w : World) (hg0 : w.cell? ⟨g, 0, none⟩ = some (.slice A1 0 c1)) (hg1 : w.cell? ⟨g, 1, none⟩ = some (.slice A2 0 c2)) :
  Calls Tryz.prog 62 #[.slice (some ⟨g, 0, none⟩) 2 2] w fun e w' => ∃ v, e = .returned v ∧ Kd.R k52 52 w' w.heap.size (fun k => w.heap.size ≤ k) v [] ∧ Below w.heap.size w w' := by
 exact concatS_walk g A1 A2 c1 c2 [] [] w hg0 hg1 (fun _ => rows_nil) (fun _ => rows_nil) (by simp)
set_option maxHeartbeats 4000000 in
set_option maxRecDepth 100000 in
theorem cloneR_nil (w : World) : Calls Tryz.prog 102 #[.slice none 0 0] w fun e w' => e = .returned (.slice none 0 0) ∧ Below w.heap.size w w' := by
 have q22 : ∀ (w : World) (a : Option Addr) (n c n' c' : Nat), (binOp .eql 41 (.slice a n c) (.slice none n' c')).run Tryz.prog w = .ok (.bool a.isNone) w := fun w a n c n' c' => Lib.run_eql_slice_nil w _ _ a n c n' c' Tryz.underlying41
 go_enter Tryz.func102, Tryz.ntmps102
 go_wp2
 go_ret
 exact ⟨rfl, Below.refl _ _⟩
set_option maxHeartbeats 4000000 in
set_option maxRecDepth 100000 in
theorem mappedR_nil (A : Option Addr) (c : Nat) (fv : Value) (w : World) : Calls Tryz.prog 58 #[.slice A 0 c, fv] w fun e w' => e = .returned (.slice none 0 0) ∧ Below w.heap.size w w' := by
 have HCL := Aside0.mk (cloneR_nil)
 go_enter Tryz.func58, Tryz.ntmps58
 go_wp2
 go_loopg [10, 5] 0 (fun gg s10 s5 wr => s10 = .int .i64 0 ∧ s5 = .slice none 0 0 ∧ Aside0 (wr = w))
 case atStart => exact ⟨rfl, rfl, ⟨rfl⟩⟩
 case round =>
  obtain ⟨rfl, rfl, HW⟩ := hrel
  go_wp2_with fail
  refine (HCL.out _).mono ?_
  rintro e w2 ⟨rfl, hB⟩
  rw [HW.out] at hB
  have HB := Aside0.mk hB
  clear hB HW
  go_wp2
  go_ret
  exact ⟨rfl, HB.out⟩
set_option maxHeartbeats 4000000 in
set_option maxRecDepth 100000 in
theorem cloneS_nil (w : World) : Calls Tryz.prog 66 #[.slice none 0 0] w fun e w' => e = .returned (.slice none 0 0) ∧ Below w.heap.size w w' := by
 have q22 : ∀ (w : World) (a : Option Addr) (n c n' c' : Nat), (binOp .eql 42 (.slice a n c) (.slice none n' c')).run Tryz.prog w = .ok (.bool a.isNone) w := fun w a n c n' c' => Lib.run_eql_slice_nil w _ _ a n c n' c' Tryz.underlying42
 go_enter Tryz.func66, Tryz.ntmps66
 go_wp2
 go_ret
 exact ⟨rfl, Below.refl _ _⟩
set_option maxHeartbeats 4000000 in
set_option maxRecDepth 100000 in
theorem mappedS_nil (A : Option Addr) (c : Nat) (fv : Value) (w : World) : Calls Tryz.prog 63 #[.slice A 0 c, fv] w fun e w' => e = .returned (.slice none 0 0) ∧ Below w.heap.size w w' := by
 have HCL := Aside0.mk (cloneS_nil)
 go_enter Tryz.func63, Tryz.ntmps63
 go_wp2
 go_loopg [10, 5] 0 (fun gg s10 s5 wr => s10 = .int .i64 0 ∧ s5 = .slice none 0 0 ∧ Aside0 (wr = w))
 case atStart => exact ⟨rfl, rfl, ⟨rfl⟩⟩
 case round =>
  obtain ⟨rfl, rfl, HW⟩ := hrel
  go_wp2_with fail
  refine (HCL.out _).mono ?_
  rintro e w2 ⟨rfl, hB⟩
  rw [HW.out] at hB
  have HB := Aside0.mk hB
  clear hB HW
  go_wp2
  go_ret
  exact ⟨rfl, HB.out⟩
end Go.Proofs.YtiocgaekoeekgaaGreat.P
end
section
namespace Go.Proofs.YtiocgaekoeekgaaGreat.P
open Go.RowKit Go.Proofs.YtiocgaekoeekgaaGreatW.PrintWords Go.Proofs.YtiocgaekoeekgaaGreatW.PrintLast Go.Proofs.YtiocgaekoeekgaaGreatW.PrintMore
attribute [local go_sem] max2_int min2_int max_two min_two max_three min_three max_four min_four   
set_option linter.unusedVariables false
set_option linter.unusedSimpArgs false
attribute [local go_sem] Oper.semAt_some
def plainL (l : List S44) : Prop := ∀ x ∈ l, x.f4 = [] ∧ x.f5 = []
def lexFrom (l : List S44) : Nat → Int → List S46 → List S46
 | 0, _, out => out
 | n + 1, a, out => if withinP a 0 ((l.length : Int) - 1) = true then lexFrom l n (parentP l a) ((rd_T44 l a).f3 ++ out) else out
def lexP (l : List S44) (i : Nat) : List S46 := lexFrom l (i + 1) i []
theorem rulesFrom_plain {l : List S44} (h : plainL l) : ∀ (n : Nat) (a : Int), rulesFrom l n a [] = []
 | 0, _ => rfl
 | n + 1, a => by
  rw [rulesFrom]
  split
  ·rename_i hw
   have hr2 : 0 ≤ a ∧ a ≤ (l.length : Int) - 1 := by
    unfold withinP at hw
    simpa using hw
   obtain ⟨k, rfl⟩ : ∃ k : Nat, a = (k : Int) := ⟨a.toNat, by omega⟩
   have hk : k < l.length := by omega
   have hy : rd_T44 l (k : Int) = l[k] := by
    show l.getD (k : Int).toNat _ = _
    rw [Int.toNat_natCast, List.getD_eq_getElem?_getD, List.getElem?_eq_getElem hk]
    rfl
   rw [hy, (h _ (List.getElem_mem hk)).1, List.nil_append]
   exact rulesFrom_plain h n _
  ·rfl
def hitL (id : ByteArray) (y : S44) : Bool := y.f0.toList == id.toList
set_option maxHeartbeats 16000000 in
set_option maxRecDepth 100000 in
theorem resolve5_hit (A : Option Addr) (c : Nat) (l : List S44) (id : ByteArray) (k : Nat) (w : World) (hr : Kd.C k44 w A l.length l) (hc : l.length ≤ c) (hpl : plainL l) (hl : l.length ≤ 100000) (hlx : ∀ x ∈ l, x.f3.length ≤ 5) (hi : idxOf (hitL id) l = (k : Int)) (hk : k < l.length) :
  Calls Tryz.prog 23 #[.slice A l.length c, .string id] w fun e w' => ∃ v3 v4 v5, e = .returned (.tuple #[.agg #[.string id, .int .i64 (rd_T44 l (k : Int)).f1, .int .i64 (rd_T44 l (k : Int)).f2, v3, v4, v5], .bool true]) ∧ Kd.R k46 46 w' w.heap.size (fun _ => True) v3 (lexP l k) ∧ Kd.S k56 56 w' w.heap.size (fun _ => True) v4 [] ∧ Kd.S k52 52 w' w.heap.size (fun _ => True) v5 [] ∧ Below w.heap.size w w' := by
 have hmf : ∀ (fn : Fn) (first cap : Array Value) (w : World), (Instr.makeFunc fn first cap).run Tryz.prog w = .ok (.func fn first cap) w := fun _ _ _ _ => rfl
 have hkz : (k : Int) < (l.length : Int) := by omega
 have hnk : decide ((k : Int) < 0) = false := decide_eq_false (by omega)
 have HR := Aside0.mk hr
 have HC := Aside0.mk hc
 have HPL := Aside0.mk hpl
 have HLL := Aside0.mk hl
 have HLX := Aside0.mk hlx
 have HK := Aside0.mk hk
 have HRU : Aside0 (∀ W, Below w.heap.size w W → Calls Tryz.prog 48 #[.slice A l.length c, .int .i64 k] W fun e w' => ∃ v : Value, e = .returned v ∧ Kd.N k56 56 w' W.heap.size (fun _ => True) v [] ∧ Below W.heap.size W w') := ⟨fun W hB => by
  have h := rules5_walk' A c l k W (Kd.C_below HR.out hB) HC.out hk (by omega) (fun x hx => by rw [(HPL.out x hx).1]; exact Nat.zero_le _)
  have e : rulesP l k = [] := rulesFrom_plain HPL.out _ _
  rw [e] at h
  exact h⟩
 have HB2 : Aside0 (Below w.heap.size w ((w.alloc (.cells #[.string id] 9)).alloc (.cells #[.string ⟨#[]⟩, .int .i64 0, .int .i64 0, .slice none 0 0, .slice none 0 0, .slice none 0 0] 44))) := ⟨below_alloc (below_alloc (Below.refl _ _) _) _⟩
 have HP2 : Aside0 (((w.alloc (.cells #[.string id] 9)).alloc (.cells #[.string ⟨#[]⟩, .int .i64 0, .int .i64 0, .slice none 0 0, .slice none 0 0, .slice none 0 0] 44)).heap[w.heap.size]? = some (.cells #[.string id] 9 (0, 0))) := ⟨blk_below (blk_new w _) (below_alloc (Below.refl _ _) _)⟩
 have HS2 : Aside0 (((w.alloc (.cells #[.string id] 9)).alloc (.cells #[.string ⟨#[]⟩, .int .i64 0, .int .i64 0, .slice none 0 0, .slice none 0 0, .slice none 0 0] 44)).heap[w.heap.size + 1]? = some (.cells #[.string ⟨#[]⟩, .int .i64 0, .int .i64 0, .slice none 0 0, .slice none 0 0, .slice none 0 0] 44 (0, 0))) := ⟨by have := blk_new (w.alloc (.cells #[.string id] 9)) (.cells #[.string ⟨#[]⟩, .int .i64 0, .int .i64 0, .slice none 0 0, .slice none 0 0, .slice none 0 0] 44); simpa using this⟩
 have HIX := Aside0.mk (indexFunc_loc (.func (.func 57) #[] #[.pointer (some ⟨w.heap.size, 0, none⟩)]) A c l (hitL id) _ (Kd.C_below HR.out HB2.out) HC.out (resolve1_tells w.heap.size id _ (blk_cell HP2.out 0)))
 rw [hi] at HIX
 obtain ⟨ad, A3, c3, A4, c4, A5, c5, hA, h0, h1, h2, h3, h4, h5, l3, g3, l4, g4, l5, g5⟩ := at_T44 hr (k : Int) (by omega) hkz
 rw [Int.toNat_natCast] at h0 h1 h2 h3 h4 h5
 generalize hp5 : (rd_T44 l (k : Int)).f1 = p5 at *
 generalize hd5 : (rd_T44 l (k : Int)).f2 = d5 at *
 subst hA
 have H1 := Aside0.mk h1
 have H2 := Aside0.mk h2
 clear hr hc hpl hl hlx hk hi h0 h1 h2 h3 h4 h5 l3 g3 l4 g4 l5 g5 hp5 hd5
 go_enter Tryz.func23, Tryz.ntmps23
 go_wp2_with fail
 generalize (w.alloc (.cells #[.string id] 9)).alloc (.cells #[.string ⟨#[]⟩, .int .i64 0, .int .i64 0, .slice none 0 0, .slice none 0 0, .slice none 0 0] 44) = W2 at *
 refine HIX.out.mono ?_
 rintro e W3 ⟨rfl, hB⟩
 replace HP2 := Aside0.mk (blk_below HP2.out hB)
 replace HS2 := Aside0.mk (blk_below HS2.out hB)
 replace HB2 : Aside0 (Below w.heap.size w W3) := ⟨below_step HB2.out hB⟩
 clear hB HIX
 have h0 : W3.cell? ⟨w.heap.size, 0, none⟩ = some (.string id) := blk_cell HP2.out 0
 have h1 := pw_cell_below HB2.out H1.out
 have h2 := pw_cell_below HB2.out H2.out
 go_upto_region 4 with fail
 go_cut [7] (fun v7 wc => ∃ g : Nat, v7 = .pointer (some ⟨g, 0, none⟩) ∧ Aside0 (w.heap.size + 2 ≤ g) ∧ Aside0 (wc.heap[g]? = some (.cells #[.string id, .int .i64 p5, .int .i64 d5, .slice none 0 0, .slice none 0 0, .slice none 0 0] 44 (0, 0))) ∧ Aside0 (wc.heap[w.heap.size + 1]? = some (.cells #[.string ⟨#[]⟩, .int .i64 0, .int .i64 0, .slice none 0 0, .slice none 0 0, .slice none 0 0] 44 (0, 0))) ∧ Aside0 (Below w.heap.size w wc))
 case first =>
  refine start_ (n := 18) (S := fun w' => w'.cell? ⟨w.heap.size, 0, none⟩ = some (.string id) ∧ w'.cell? ⟨(ad.add (k * 6)).block, (ad.add (k * 6)).off + 1, none⟩ = some (.int .i64 p5) ∧ w'.cell? ⟨(ad.add (k * 6)).block, (ad.add (k * 6)).off + 2, none⟩ = some (.int .i64 d5) ∧ Aside0 (w'.heap[w.heap.size + 1]? = some (.cells #[.string ⟨#[]⟩, .int .i64 0, .int .i64 0, .slice none 0 0, .slice none 0 0, .slice none 0 0] 44 (0, 0))) ∧ Aside0 (Below w.heap.size w w')) (ds := [17]) (f_ 18 0) (by kernel_rfl) rfl rfl ⟨h0, h1, h2, HS2, ⟨pw_below_drewN HB2.out 1⟩⟩ (fun hHeld => ?_)
  generalize W3.drew = w3 at *
  refine take_ (i := 0) (N := some 14) (v := ?_) (a' := ?_) (f_ 18 1) rfl rfl (by kernel_rfl) (fun _ _ _ h => h) (Or.inl ⟨by rfl, ?_⟩) hHeld ?_ ?_
  rotate_left
  ·rintro w' ⟨s0, s1, s2, s3, s4⟩
   go_simp
   try with_reducible rfl
  rotate_left
  ·simp only [Act.put, s1_, s2_, s3_, i64_w, i32_w]
   rfl
  refine pure_ (i := 1) (N := some 15) (v := ?_) (a' := ?_) (f_ 18 2) rfl rfl (by kernel_rfl) (fun _ _ _ h => h) (Or.inl ⟨by rfl, ?_⟩) ?_ ?_
  rotate_left
  ·intro w'
   go_simp
   try with_reducible rfl
  rotate_left
  ·simp only [Act.put, s1_, s2_, s3_, i64_w, i32_w]
   rfl
  refine pure_ (i := 2) (N := some 16) (v := ?_) (a' := ?_) (f_ 18 3) rfl rfl (by kernel_rfl) (fun _ _ _ h => h) (Or.inl ⟨by rfl, ?_⟩) ?_ ?_
  rotate_left
  ·intro w'
   go_simp
   try with_reducible rfl
  rotate_left
  ·simp only [Act.put, s1_, s2_, s3_, i64_w, i32_w]
   rfl
  refine pure_ (i := 3) (N := some 17) (v := ?_) (a' := ?_) (f_ 18 4) rfl rfl (by kernel_rfl) (fun _ _ _ h => h) (Or.inl ⟨by rfl, ?_⟩) ?_ ?_
  rotate_left
  ·intro w'
   go_simp
   try with_reducible rfl
  rotate_left
  ·simp only [Act.put, s1_, s2_, s3_, i64_w, i32_w]
   rfl
  refine pure_ (i := 4) (N := some 18) (v := ?_) (a' := ?_) (f_ 18 5) rfl rfl (by kernel_rfl) (fun _ _ _ h => h) (Or.inl ⟨by rfl, ?_⟩) ?_ ?_
  rotate_left
  ·intro w'
   go_simp
   try with_reducible rfl
  rotate_left
  ·simp only [Act.put, s1_, s2_, s3_, i64_w, i32_w]
   rfl
  refine take_ (i := 5) (N := some 19) (v := ?_) (a' := ?_) (f_ 18 6) rfl rfl (by kernel_rfl) (fun _ _ _ h => h) (Or.inl ⟨by rfl, ?_⟩) hHeld ?_ ?_
  rotate_left
  ·rintro w' ⟨s0, s1, s2, s3, s4⟩
   go_simp
   try with_reducible rfl
  rotate_left
  ·simp only [Act.put, s1_, s2_, s3_, i64_w, i32_w]
   rfl
  refine pure_ (i := 6) (N := some 20) (v := ?_) (a' := ?_) (f_ 18 7) rfl rfl (by kernel_rfl) (fun _ _ _ h => h) (Or.inl ⟨by rfl, ?_⟩) ?_ ?_
  rotate_left
  ·intro w'
   go_simp
   try with_reducible rfl
  rotate_left
  ·simp only [Act.put, s1_, s2_, s3_, i64_w, i32_w]
   rfl
  refine pure_ (i := 7) (N := some 21) (v := ?_) (a' := ?_) (f_ 18 8) rfl rfl (by kernel_rfl) (fun _ _ _ h => h) (Or.inl ⟨by rfl, ?_⟩) ?_ ?_
  rotate_left
  ·intro w'
   go_simp
   try with_reducible rfl
  rotate_left
  ·simp only [Act.put, s1_, s2_, s3_, i64_w, i32_w]
   rfl
  refine pure_ (i := 8) (N := some 22) (v := ?_) (a' := ?_) (f_ 18 9) rfl rfl (by kernel_rfl) (fun _ _ _ h => h) (Or.inl ⟨by rfl, ?_⟩) ?_ ?_
  rotate_left
  ·intro w'
   go_simp
   try with_reducible rfl
  rotate_left
  ·simp only [Act.put, s1_, s2_, s3_, i64_w, i32_w]
   rfl
  refine pure_ (i := 9) (N := some 23) (v := ?_) (a' := ?_) (f_ 18 10) rfl rfl (by kernel_rfl) (fun _ _ _ h => h) (Or.inl ⟨by rfl, ?_⟩) ?_ ?_
  rotate_left
  ·intro w'
   go_simp
   try with_reducible rfl
  rotate_left
  ·simp only [Act.put, s1_, s2_, s3_, i64_w, i32_w]
   rfl
  refine take_ (i := 10) (N := some 24) (v := ?_) (a' := ?_) (f_ 18 11) rfl rfl (by kernel_rfl) (fun _ _ _ h => h) (Or.inl ⟨by rfl, ?_⟩) hHeld ?_ ?_
  rotate_left
  ·rintro w' ⟨s0, s1, s2, s3, s4⟩
   go_simp
   try with_reducible rfl
  rotate_left
  ·simp only [Act.put, s1_, s2_, s3_, i64_w, i32_w]
   rfl
  refine pure_ (i := 11) (N := some 25) (v := ?_) (a' := ?_) (f_ 18 12) rfl rfl (by kernel_rfl) (fun _ _ _ h => h) (Or.inl ⟨by rfl, ?_⟩) ?_ ?_
  rotate_left
  ·intro w'
   go_simp
   try with_reducible rfl
  rotate_left
  ·simp only [Act.put, s1_, s2_, s3_, i64_w, i32_w]
   rfl
  refine pure_ (i := 12) (N := some 26) (v := ?_) (a' := ?_) (f_ 18 13) rfl rfl (by kernel_rfl) (fun _ _ _ h => h) (Or.inl ⟨by rfl, ?_⟩) ?_ ?_
  rotate_left
  ·intro w'
   go_simp
   try with_reducible rfl
  rotate_left
  ·simp only [Act.put, s1_, s2_, s3_, i64_w, i32_w]
   rfl
  refine two_ (i := 13) (j := 16) (Ni := some 27) (Nj := some 7) (f_ 18 14) #[true, true, true, true, true, true, true, true, true, true, true, true, true, false, false, false, true, false] rfl rfl rfl rfl (by kernel_rfl) (by decide) (by decide) (fun K hK => ?_) (fun K hK => ?_)
  ·refine goes_ Tryz.func48 (by kernel_rfl) rfl #[.slice (some ad) l.length c, .int .i64 k] (by rfl) rfl rfl (by (try simp only [List.map_toArray, List.map_cons, List.map_nil]); rfl) ?_
   refine (HRU.out _ hHeld.2.2.2.2.out).mono ?_
   rintro e w4 ⟨v8, rfl, hN, hB⟩
   obtain ⟨A8, c8, hs8⟩ := Kd.N_slice hN
   have hs9 : v8 = .slice A8 0 c8 := hs8
   subst hs9
   clear hN hs8
   refine ⟨_, rfl, ?_⟩
   refine hK.out _ _ ⟨pw_cell_below hB hHeld.1, pw_cell_below hB hHeld.2.1, pw_cell_below hB hHeld.2.2.1, ⟨blk_below hHeld.2.2.2.1.out hB⟩, ⟨below_step hHeld.2.2.2.2.out hB⟩⟩ (fun hHeld => ?_)
   clear hK K
   refine norm_ (a' := ?_) ?_ ?_
   rotate_left
   ·show Act.put _ (some 27) _ = _
    simp only [Act.put, s1_, s2_, s3_, i64_w, i32_w]
    rfl
   refine two_ (i := 14) (j := 16) (Ni := some 28) (Nj := some 7) (f_ 18 15) #[true, true, true, true, true, true, true, true, true, true, true, true, true, true, false, false, true, false] rfl rfl rfl rfl (by kernel_rfl) (by decide) (by decide) (fun K hK => ?_) (fun K hK => ?_)
   ·refine goes_ Tryz.func58 (by kernel_rfl) rfl #[.slice A8 0 c8, .func (.func 59) #[] #[]] (by rfl) rfl rfl (by (try simp only [List.map_toArray, List.map_cons, List.map_nil]); rfl) ?_
    refine (mappedR_nil A8 c8 _ _).mono ?_
    rintro e w5 ⟨rfl, hB⟩
    refine ⟨_, rfl, ?_⟩
    refine hK.out _ _ ⟨pw_cell_below hB hHeld.1, pw_cell_below hB hHeld.2.1, pw_cell_below hB hHeld.2.2.1, ⟨blk_below hHeld.2.2.2.1.out hB⟩, ⟨below_step hHeld.2.2.2.2.out hB⟩⟩ (fun hHeld => ?_)
    clear hK K
    refine norm_ (a' := ?_) ?_ ?_
    rotate_left
    ·show Act.put _ (some 28) _ = _
     simp only [Act.put, s1_, s2_, s3_, i64_w, i32_w]
     rfl
    refine pure_ (i := 15) (N := some 29) (v := ?_) (a' := ?_) (f_ 18 16) rfl rfl (by kernel_rfl) (fun _ _ _ h => h) (Or.inl ⟨by rfl, ?_⟩) ?_ ?_
    rotate_left
    ·intro w'
     go_simp
     try with_reducible rfl
    rotate_left
    ·simp only [Act.put, s1_, s2_, s3_, i64_w, i32_w]
     rfl
    refine one_ (i := 16) (N := some 7) (f_ 18 17) rfl rfl (by kernel_rfl) (by decide) (fun K hK => ?_)
    refine value_ (w1 := ?_) (v := ?_) (by rfl) rfl ?_ ?_
    rotate_left 2
    ·go_simp
     constructor
     ·rfl
     ·rfl
    have hB := below_alloc (Below.refl w5.heap.size w5) (.cells #[.string ⟨#[]⟩, .int .i64 0, .int .i64 0, .slice none 0 0, .slice none 0 0, .slice none 0 0] 44)
    have HG := Aside0.mk (blk_new w5 (.cells #[.string ⟨#[]⟩, .int .i64 0, .int .i64 0, .slice none 0 0, .slice none 0 0, .slice none 0 0] 44))
    have HZ : Aside0 (w.heap.size + 2 ≤ w5.heap.size) := ⟨by have := blk_lt hHeld.2.2.2.1.out; omega⟩
    refine hK.out _ _ ⟨pw_cell_below hB hHeld.1, pw_cell_below hB hHeld.2.1, pw_cell_below hB hHeld.2.2.1, ⟨blk_below hHeld.2.2.2.1.out hB⟩, ⟨below_step hHeld.2.2.2.2.out hB⟩⟩ (fun hHeld => ?_)
    clear hK K
    generalize hgg : w5.heap.size = g at *
    generalize w5.alloc (.cells #[.string ⟨#[]⟩, .int .i64 0, .int .i64 0, .slice none 0 0, .slice none 0 0, .slice none 0 0] 44) = W9 at *
    have hK := trivial
    have K := trivial
    clear hK K
    refine norm_ (a' := ?_) ?_ ?_
    rotate_left
    ·show Act.put _ (some 7) _ = _
     simp only [Act.put, s1_, s2_, s3_, i64_w, i32_w]
     rfl
    refine last_ (i := 17) (N := none) (f_ 18 18) rfl rfl (by kernel_rfl) (by decide) (fun K hK => ?_)
    generalize W9 = w6 at *
    have hz0 : w6.cell? ⟨g, 0, none⟩ = some (.string ⟨#[]⟩) := (blk_cell HG.out 0).trans rfl
    have hy0 := blk_frozen HG.out 0
    have hz1 : w6.cell? ⟨g, 1, none⟩ = some (.int .i64 0) := (blk_cell HG.out 1).trans rfl
    have hy1 := blk_frozen HG.out 1
    have hz2 : w6.cell? ⟨g, 2, none⟩ = some (.int .i64 0) := (blk_cell HG.out 2).trans rfl
    have hy2 := blk_frozen HG.out 2
    have hz3 : w6.cell? ⟨g, 3, none⟩ = some (.slice none 0 0) := (blk_cell HG.out 3).trans rfl
    have hy3 := blk_frozen HG.out 3
    have hz4 : w6.cell? ⟨g, 4, none⟩ = some (.slice none 0 0) := (blk_cell HG.out 4).trans rfl
    have hy4 := blk_frozen HG.out 4
    have hz5 : w6.cell? ⟨g, 5, none⟩ = some (.slice none 0 0) := (blk_cell HG.out 5).trans rfl
    have hy5 := blk_frozen HG.out 5
    refine skip_ (w1 := ?_) (by rfl) rfl ?_ ?_
    rotate_left
    ·go_simp
     rfl
    refine hK.out _ _ ?_
    clear hK K
    refine done_ (by kernel_rfl) ?_
    have HGE : Aside0 (w.heap.size ≤ g) := ⟨by have := HZ.out; omega⟩
    have HW6 := hHeld.2.2.2.2
    have HF : Aside0 (((((((w6.setCell ⟨g, 0, none⟩ (.string id)).setCell ⟨g, 1, none⟩ (.int .i64 p5)).setCell ⟨g, 2, none⟩ (.int .i64 d5)).setCell ⟨g, 3, none⟩ (.slice none 0 0)).setCell ⟨g, 4, none⟩ (.slice none 0 0)).setCell ⟨g, 5, none⟩ (.slice none 0 0)).heap[g]? = some (.cells #[.string id, .int .i64 p5, .int .i64 d5, .slice none 0 0, .slice none 0 0, .slice none 0 0] 44 (0, 0))) := ⟨by simpa using (blk_set (blk_set (blk_set (blk_set (blk_set (blk_set HG.out 0 (.string id)) 1 (.int .i64 p5)) 2 (.int .i64 d5)) 3 (.slice none 0 0)) 4 (.slice none 0 0)) 5 (.slice none 0 0))⟩
    have HBF : Aside0 (Below w.heap.size w ((((((w6.setCell ⟨g, 0, none⟩ (.string id)).setCell ⟨g, 1, none⟩ (.int .i64 p5)).setCell ⟨g, 2, none⟩ (.int .i64 d5)).setCell ⟨g, 3, none⟩ (.slice none 0 0)).setCell ⟨g, 4, none⟩ (.slice none 0 0)).setCell ⟨g, 5, none⟩ (.slice none 0 0))) := ⟨(Below.setCell (p := ⟨g, 5, none⟩) (Below.setCell (p := ⟨g, 4, none⟩) (Below.setCell (p := ⟨g, 3, none⟩) (Below.setCell (p := ⟨g, 2, none⟩) (Below.setCell (p := ⟨g, 1, none⟩) (Below.setCell (p := ⟨g, 0, none⟩) HW6.out HGE.out (.string id)) HGE.out (.int .i64 p5)) HGE.out (.int .i64 d5)) HGE.out (.slice none 0 0)) HGE.out (.slice none 0 0)) HGE.out (.slice none 0 0))⟩
    have HSF : Aside0 (((((((w6.setCell ⟨g, 0, none⟩ (.string id)).setCell ⟨g, 1, none⟩ (.int .i64 p5)).setCell ⟨g, 2, none⟩ (.int .i64 d5)).setCell ⟨g, 3, none⟩ (.slice none 0 0)).setCell ⟨g, 4, none⟩ (.slice none 0 0)).setCell ⟨g, 5, none⟩ (.slice none 0 0)).heap[w.heap.size + 1]? = some (.cells #[.string ⟨#[]⟩, .int .i64 0, .int .i64 0, .slice none 0 0, .slice none 0 0, .slice none 0 0] 44 (0, 0))) := ⟨((heap_setCell_other (((((w6.setCell ⟨g, 0, none⟩ (.string id)).setCell ⟨g, 1, none⟩ (.int .i64 p5)).setCell ⟨g, 2, none⟩ (.int .i64 d5)).setCell ⟨g, 3, none⟩ (.slice none 0 0)).setCell ⟨g, 4, none⟩ (.slice none 0 0)) ⟨g, 5, none⟩ (w.heap.size + 1) (.slice none 0 0) (by have := HZ.out; show w.heap.size + 1 ≠ g; omega)).trans ((heap_setCell_other ((((w6.setCell ⟨g, 0, none⟩ (.string id)).setCell ⟨g, 1, none⟩ (.int .i64 p5)).setCell ⟨g, 2, none⟩ (.int .i64 d5)).setCell ⟨g, 3, none⟩ (.slice none 0 0)) ⟨g, 4, none⟩ (w.heap.size + 1) (.slice none 0 0) (by have := HZ.out; show w.heap.size + 1 ≠ g; omega)).trans ((heap_setCell_other (((w6.setCell ⟨g, 0, none⟩ (.string id)).setCell ⟨g, 1, none⟩ (.int .i64 p5)).setCell ⟨g, 2, none⟩ (.int .i64 d5)) ⟨g, 3, none⟩ (w.heap.size + 1) (.slice none 0 0) (by have := HZ.out; show w.heap.size + 1 ≠ g; omega)).trans ((heap_setCell_other ((w6.setCell ⟨g, 0, none⟩ (.string id)).setCell ⟨g, 1, none⟩ (.int .i64 p5)) ⟨g, 2, none⟩ (w.heap.size + 1) (.int .i64 d5) (by have := HZ.out; show w.heap.size + 1 ≠ g; omega)).trans ((heap_setCell_other (w6.setCell ⟨g, 0, none⟩ (.string id)) ⟨g, 1, none⟩ (w.heap.size + 1) (.int .i64 p5) (by have := HZ.out; show w.heap.size + 1 ≠ g; omega)).trans ((heap_setCell_other w6 ⟨g, 0, none⟩ (w.heap.size + 1) (.string id) (by have := HZ.out; show w.heap.size + 1 ≠ g; omega)).trans hHeld.2.2.2.1.out))))))⟩
    generalize ((((((w6.setCell ⟨g, 0, none⟩ (.string id)).setCell ⟨g, 1, none⟩ (.int .i64 p5)).setCell ⟨g, 2, none⟩ (.int .i64 d5)).setCell ⟨g, 3, none⟩ (.slice none 0 0)).setCell ⟨g, 4, none⟩ (.slice none 0 0)).setCell ⟨g, 5, none⟩ (.slice none 0 0)) = w7 at *
    clear hHeld
    go_wp2_with fail
    go_meet
    case rel => exact ⟨g, rfl, HZ, HF, HSF, HBF⟩
   ·refine value_ (w1 := ?_) (v := ?_) (by rfl) rfl ?_ ?_
    rotate_left 2
    ·go_simp
     constructor
     ·rfl
     ·rfl
    have hB := below_alloc (Below.refl w4.heap.size w4) (.cells #[.string ⟨#[]⟩, .int .i64 0, .int .i64 0, .slice none 0 0, .slice none 0 0, .slice none 0 0] 44)
    have HG := Aside0.mk (blk_new w4 (.cells #[.string ⟨#[]⟩, .int .i64 0, .int .i64 0, .slice none 0 0, .slice none 0 0, .slice none 0 0] 44))
    have HZ : Aside0 (w.heap.size + 2 ≤ w4.heap.size) := ⟨by have := blk_lt hHeld.2.2.2.1.out; omega⟩
    refine hK.out _ _ ⟨pw_cell_below hB hHeld.1, pw_cell_below hB hHeld.2.1, pw_cell_below hB hHeld.2.2.1, ⟨blk_below hHeld.2.2.2.1.out hB⟩, ⟨below_step hHeld.2.2.2.2.out hB⟩⟩ (fun hHeld => ?_)
    clear hK K
    generalize hgg : w4.heap.size = g at *
    generalize w4.alloc (.cells #[.string ⟨#[]⟩, .int .i64 0, .int .i64 0, .slice none 0 0, .slice none 0 0, .slice none 0 0] 44) = W9 at *
    have hK := trivial
    have K := trivial
    clear hK K
    refine norm_ (a' := ?_) ?_ ?_
    rotate_left
    ·show Act.put _ (some 7) _ = _
     simp only [Act.put, s1_, s2_, s3_, i64_w, i32_w]
     rfl
    refine one_ (i := 14) (N := some 28) #[true, true, true, true, true, true, true, true, true, true, true, true, true, true, true, false, true, false] rfl rfl (by kernel_rfl) (by decide) (fun K hK => ?_)
    refine goes_ Tryz.func58 (by kernel_rfl) rfl #[.slice A8 0 c8, .func (.func 59) #[] #[]] (by rfl) rfl rfl (by (try simp only [List.map_toArray, List.map_cons, List.map_nil]); rfl) ?_
    refine (mappedR_nil A8 c8 _ _).mono ?_
    rintro e w5 ⟨rfl, hB⟩
    have HG := Aside0.mk (blk_below HG.out hB)
    refine ⟨_, rfl, ?_⟩
    refine hK.out _ _ ⟨pw_cell_below hB hHeld.1, pw_cell_below hB hHeld.2.1, pw_cell_below hB hHeld.2.2.1, ⟨blk_below hHeld.2.2.2.1.out hB⟩, ⟨below_step hHeld.2.2.2.2.out hB⟩⟩ (fun hHeld => ?_)
    clear hK K
    refine norm_ (a' := ?_) ?_ ?_
    rotate_left
    ·show Act.put _ (some 28) _ = _
     simp only [Act.put, s1_, s2_, s3_, i64_w, i32_w]
     rfl
    refine pure_ (i := 15) (N := some 29) (v := ?_) (a' := ?_) (f_ 18 17) rfl rfl (by kernel_rfl) (fun _ _ _ h => h) (Or.inl ⟨by rfl, ?_⟩) ?_ ?_
    rotate_left
    ·intro w'
     go_simp
     try with_reducible rfl
    rotate_left
    ·simp only [Act.put, s1_, s2_, s3_, i64_w, i32_w]
     rfl
    refine last_ (i := 17) (N := none) (f_ 18 18) rfl rfl (by kernel_rfl) (by decide) (fun K hK => ?_)
    generalize w5 = w6 at *
    have hz0 : w6.cell? ⟨g, 0, none⟩ = some (.string ⟨#[]⟩) := (blk_cell HG.out 0).trans rfl
    have hy0 := blk_frozen HG.out 0
    have hz1 : w6.cell? ⟨g, 1, none⟩ = some (.int .i64 0) := (blk_cell HG.out 1).trans rfl
    have hy1 := blk_frozen HG.out 1
    have hz2 : w6.cell? ⟨g, 2, none⟩ = some (.int .i64 0) := (blk_cell HG.out 2).trans rfl
    have hy2 := blk_frozen HG.out 2
    have hz3 : w6.cell? ⟨g, 3, none⟩ = some (.slice none 0 0) := (blk_cell HG.out 3).trans rfl
    have hy3 := blk_frozen HG.out 3
    have hz4 : w6.cell? ⟨g, 4, none⟩ = some (.slice none 0 0) := (blk_cell HG.out 4).trans rfl
    have hy4 := blk_frozen HG.out 4
    have hz5 : w6.cell? ⟨g, 5, none⟩ = some (.slice none 0 0) := (blk_cell HG.out 5).trans rfl
    have hy5 := blk_frozen HG.out 5
    refine skip_ (w1 := ?_) (by rfl) rfl ?_ ?_
    rotate_left
    ·go_simp
     rfl
    refine hK.out _ _ ?_
    clear hK K
    refine done_ (by kernel_rfl) ?_
    have HGE : Aside0 (w.heap.size ≤ g) := ⟨by have := HZ.out; omega⟩
    have HW6 := hHeld.2.2.2.2
    have HF : Aside0 (((((((w6.setCell ⟨g, 0, none⟩ (.string id)).setCell ⟨g, 1, none⟩ (.int .i64 p5)).setCell ⟨g, 2, none⟩ (.int .i64 d5)).setCell ⟨g, 3, none⟩ (.slice none 0 0)).setCell ⟨g, 4, none⟩ (.slice none 0 0)).setCell ⟨g, 5, none⟩ (.slice none 0 0)).heap[g]? = some (.cells #[.string id, .int .i64 p5, .int .i64 d5, .slice none 0 0, .slice none 0 0, .slice none 0 0] 44 (0, 0))) := ⟨by simpa using (blk_set (blk_set (blk_set (blk_set (blk_set (blk_set HG.out 0 (.string id)) 1 (.int .i64 p5)) 2 (.int .i64 d5)) 3 (.slice none 0 0)) 4 (.slice none 0 0)) 5 (.slice none 0 0))⟩
    have HBF : Aside0 (Below w.heap.size w ((((((w6.setCell ⟨g, 0, none⟩ (.string id)).setCell ⟨g, 1, none⟩ (.int .i64 p5)).setCell ⟨g, 2, none⟩ (.int .i64 d5)).setCell ⟨g, 3, none⟩ (.slice none 0 0)).setCell ⟨g, 4, none⟩ (.slice none 0 0)).setCell ⟨g, 5, none⟩ (.slice none 0 0))) := ⟨(Below.setCell (p := ⟨g, 5, none⟩) (Below.setCell (p := ⟨g, 4, none⟩) (Below.setCell (p := ⟨g, 3, none⟩) (Below.setCell (p := ⟨g, 2, none⟩) (Below.setCell (p := ⟨g, 1, none⟩) (Below.setCell (p := ⟨g, 0, none⟩) HW6.out HGE.out (.string id)) HGE.out (.int .i64 p5)) HGE.out (.int .i64 d5)) HGE.out (.slice none 0 0)) HGE.out (.slice none 0 0)) HGE.out (.slice none 0 0))⟩
    have HSF : Aside0 (((((((w6.setCell ⟨g, 0, none⟩ (.string id)).setCell ⟨g, 1, none⟩ (.int .i64 p5)).setCell ⟨g, 2, none⟩ (.int .i64 d5)).setCell ⟨g, 3, none⟩ (.slice none 0 0)).setCell ⟨g, 4, none⟩ (.slice none 0 0)).setCell ⟨g, 5, none⟩ (.slice none 0 0)).heap[w.heap.size + 1]? = some (.cells #[.string ⟨#[]⟩, .int .i64 0, .int .i64 0, .slice none 0 0, .slice none 0 0, .slice none 0 0] 44 (0, 0))) := ⟨((heap_setCell_other (((((w6.setCell ⟨g, 0, none⟩ (.string id)).setCell ⟨g, 1, none⟩ (.int .i64 p5)).setCell ⟨g, 2, none⟩ (.int .i64 d5)).setCell ⟨g, 3, none⟩ (.slice none 0 0)).setCell ⟨g, 4, none⟩ (.slice none 0 0)) ⟨g, 5, none⟩ (w.heap.size + 1) (.slice none 0 0) (by have := HZ.out; show w.heap.size + 1 ≠ g; omega)).trans ((heap_setCell_other ((((w6.setCell ⟨g, 0, none⟩ (.string id)).setCell ⟨g, 1, none⟩ (.int .i64 p5)).setCell ⟨g, 2, none⟩ (.int .i64 d5)).setCell ⟨g, 3, none⟩ (.slice none 0 0)) ⟨g, 4, none⟩ (w.heap.size + 1) (.slice none 0 0) (by have := HZ.out; show w.heap.size + 1 ≠ g; omega)).trans ((heap_setCell_other (((w6.setCell ⟨g, 0, none⟩ (.string id)).setCell ⟨g, 1, none⟩ (.int .i64 p5)).setCell ⟨g, 2, none⟩ (.int .i64 d5)) ⟨g, 3, none⟩ (w.heap.size + 1) (.slice none 0 0) (by have := HZ.out; show w.heap.size + 1 ≠ g; omega)).trans ((heap_setCell_other ((w6.setCell ⟨g, 0, none⟩ (.string id)).setCell ⟨g, 1, none⟩ (.int .i64 p5)) ⟨g, 2, none⟩ (w.heap.size + 1) (.int .i64 d5) (by have := HZ.out; show w.heap.size + 1 ≠ g; omega)).trans ((heap_setCell_other (w6.setCell ⟨g, 0, none⟩ (.string id)) ⟨g, 1, none⟩ (w.heap.size + 1) (.int .i64 p5) (by have := HZ.out; show w.heap.size + 1 ≠ g; omega)).trans ((heap_setCell_other w6 ⟨g, 0, none⟩ (w.heap.size + 1) (.string id) (by have := HZ.out; show w.heap.size + 1 ≠ g; omega)).trans hHeld.2.2.2.1.out))))))⟩
    generalize ((((((w6.setCell ⟨g, 0, none⟩ (.string id)).setCell ⟨g, 1, none⟩ (.int .i64 p5)).setCell ⟨g, 2, none⟩ (.int .i64 d5)).setCell ⟨g, 3, none⟩ (.slice none 0 0)).setCell ⟨g, 4, none⟩ (.slice none 0 0)).setCell ⟨g, 5, none⟩ (.slice none 0 0)) = w7 at *
    clear hHeld
    go_wp2_with fail
    go_meet
    case rel => exact ⟨g, rfl, HZ, HF, HSF, HBF⟩
  ·refine value_ (w1 := ?_) (v := ?_) (by rfl) rfl ?_ ?_
   rotate_left 2
   ·go_simp
    constructor
    ·rfl
    ·rfl
   have hB := below_alloc (Below.refl w3.heap.size w3) (.cells #[.string ⟨#[]⟩, .int .i64 0, .int .i64 0, .slice none 0 0, .slice none 0 0, .slice none 0 0] 44)
   have HG := Aside0.mk (blk_new w3 (.cells #[.string ⟨#[]⟩, .int .i64 0, .int .i64 0, .slice none 0 0, .slice none 0 0, .slice none 0 0] 44))
   have HZ : Aside0 (w.heap.size + 2 ≤ w3.heap.size) := ⟨by have := blk_lt hHeld.2.2.2.1.out; omega⟩
   refine hK.out _ _ ⟨pw_cell_below hB hHeld.1, pw_cell_below hB hHeld.2.1, pw_cell_below hB hHeld.2.2.1, ⟨blk_below hHeld.2.2.2.1.out hB⟩, ⟨below_step hHeld.2.2.2.2.out hB⟩⟩ (fun hHeld => ?_)
   clear hK K
   generalize hgg : w3.heap.size = g at *
   generalize w3.alloc (.cells #[.string ⟨#[]⟩, .int .i64 0, .int .i64 0, .slice none 0 0, .slice none 0 0, .slice none 0 0] 44) = W9 at *
   have hK := trivial
   have K := trivial
   clear hK K
   refine norm_ (a' := ?_) ?_ ?_
   rotate_left
   ·show Act.put _ (some 7) _ = _
    simp only [Act.put, s1_, s2_, s3_, i64_w, i32_w]
    rfl
   refine one_ (i := 13) (N := some 27) #[true, true, true, true, true, true, true, true, true, true, true, true, true, true, false, false, true, false] rfl rfl (by kernel_rfl) (by decide) (fun K hK => ?_)
   refine goes_ Tryz.func48 (by kernel_rfl) rfl #[.slice (some ad) l.length c, .int .i64 k] (by rfl) rfl rfl (by (try simp only [List.map_toArray, List.map_cons, List.map_nil]); rfl) ?_
   refine (HRU.out _ hHeld.2.2.2.2.out).mono ?_
   rintro e w4 ⟨v8, rfl, hN, hB⟩
   obtain ⟨A8, c8, hs8⟩ := Kd.N_slice hN
   have hs9 : v8 = .slice A8 0 c8 := hs8
   subst hs9
   have HG := Aside0.mk (blk_below HG.out hB)
   clear hN hs8
   refine ⟨_, rfl, ?_⟩
   refine hK.out _ _ ⟨pw_cell_below hB hHeld.1, pw_cell_below hB hHeld.2.1, pw_cell_below hB hHeld.2.2.1, ⟨blk_below hHeld.2.2.2.1.out hB⟩, ⟨below_step hHeld.2.2.2.2.out hB⟩⟩ (fun hHeld => ?_)
   clear hK K
   refine norm_ (a' := ?_) ?_ ?_
   rotate_left
   ·show Act.put _ (some 27) _ = _
    simp only [Act.put, s1_, s2_, s3_, i64_w, i32_w]
    rfl
   refine one_ (i := 14) (N := some 28) #[true, true, true, true, true, true, true, true, true, true, true, true, true, true, true, false, true, false] rfl rfl (by kernel_rfl) (by decide) (fun K hK => ?_)
   refine goes_ Tryz.func58 (by kernel_rfl) rfl #[.slice A8 0 c8, .func (.func 59) #[] #[]] (by rfl) rfl rfl (by (try simp only [List.map_toArray, List.map_cons, List.map_nil]); rfl) ?_
   refine (mappedR_nil A8 c8 _ _).mono ?_
   rintro e w5 ⟨rfl, hB⟩
   have HG := Aside0.mk (blk_below HG.out hB)
   refine ⟨_, rfl, ?_⟩
   refine hK.out _ _ ⟨pw_cell_below hB hHeld.1, pw_cell_below hB hHeld.2.1, pw_cell_below hB hHeld.2.2.1, ⟨blk_below hHeld.2.2.2.1.out hB⟩, ⟨below_step hHeld.2.2.2.2.out hB⟩⟩ (fun hHeld => ?_)
   clear hK K
   refine norm_ (a' := ?_) ?_ ?_
   rotate_left
   ·show Act.put _ (some 28) _ = _
    simp only [Act.put, s1_, s2_, s3_, i64_w, i32_w]
    rfl
   refine pure_ (i := 15) (N := some 29) (v := ?_) (a' := ?_) (f_ 18 17) rfl rfl (by kernel_rfl) (fun _ _ _ h => h) (Or.inl ⟨by rfl, ?_⟩) ?_ ?_
   rotate_left
   ·intro w'
    go_simp
    try with_reducible rfl
   rotate_left
   ·simp only [Act.put, s1_, s2_, s3_, i64_w, i32_w]
    rfl
   refine last_ (i := 17) (N := none) (f_ 18 18) rfl rfl (by kernel_rfl) (by decide) (fun K hK => ?_)
   generalize w5 = w6 at *
   have hz0 : w6.cell? ⟨g, 0, none⟩ = some (.string ⟨#[]⟩) := (blk_cell HG.out 0).trans rfl
   have hy0 := blk_frozen HG.out 0
   have hz1 : w6.cell? ⟨g, 1, none⟩ = some (.int .i64 0) := (blk_cell HG.out 1).trans rfl
   have hy1 := blk_frozen HG.out 1
   have hz2 : w6.cell? ⟨g, 2, none⟩ = some (.int .i64 0) := (blk_cell HG.out 2).trans rfl
   have hy2 := blk_frozen HG.out 2
   have hz3 : w6.cell? ⟨g, 3, none⟩ = some (.slice none 0 0) := (blk_cell HG.out 3).trans rfl
   have hy3 := blk_frozen HG.out 3
   have hz4 : w6.cell? ⟨g, 4, none⟩ = some (.slice none 0 0) := (blk_cell HG.out 4).trans rfl
   have hy4 := blk_frozen HG.out 4
   have hz5 : w6.cell? ⟨g, 5, none⟩ = some (.slice none 0 0) := (blk_cell HG.out 5).trans rfl
   have hy5 := blk_frozen HG.out 5
   refine skip_ (w1 := ?_) (by rfl) rfl ?_ ?_
   rotate_left
   ·go_simp
    rfl
   refine hK.out _ _ ?_
   clear hK K
   refine done_ (by kernel_rfl) ?_
   have HGE : Aside0 (w.heap.size ≤ g) := ⟨by have := HZ.out; omega⟩
   have HW6 := hHeld.2.2.2.2
   have HF : Aside0 (((((((w6.setCell ⟨g, 0, none⟩ (.string id)).setCell ⟨g, 1, none⟩ (.int .i64 p5)).setCell ⟨g, 2, none⟩ (.int .i64 d5)).setCell ⟨g, 3, none⟩ (.slice none 0 0)).setCell ⟨g, 4, none⟩ (.slice none 0 0)).setCell ⟨g, 5, none⟩ (.slice none 0 0)).heap[g]? = some (.cells #[.string id, .int .i64 p5, .int .i64 d5, .slice none 0 0, .slice none 0 0, .slice none 0 0] 44 (0, 0))) := ⟨by simpa using (blk_set (blk_set (blk_set (blk_set (blk_set (blk_set HG.out 0 (.string id)) 1 (.int .i64 p5)) 2 (.int .i64 d5)) 3 (.slice none 0 0)) 4 (.slice none 0 0)) 5 (.slice none 0 0))⟩
   have HBF : Aside0 (Below w.heap.size w ((((((w6.setCell ⟨g, 0, none⟩ (.string id)).setCell ⟨g, 1, none⟩ (.int .i64 p5)).setCell ⟨g, 2, none⟩ (.int .i64 d5)).setCell ⟨g, 3, none⟩ (.slice none 0 0)).setCell ⟨g, 4, none⟩ (.slice none 0 0)).setCell ⟨g, 5, none⟩ (.slice none 0 0))) := ⟨(Below.setCell (p := ⟨g, 5, none⟩) (Below.setCell (p := ⟨g, 4, none⟩) (Below.setCell (p := ⟨g, 3, none⟩) (Below.setCell (p := ⟨g, 2, none⟩) (Below.setCell (p := ⟨g, 1, none⟩) (Below.setCell (p := ⟨g, 0, none⟩) HW6.out HGE.out (.string id)) HGE.out (.int .i64 p5)) HGE.out (.int .i64 d5)) HGE.out (.slice none 0 0)) HGE.out (.slice none 0 0)) HGE.out (.slice none 0 0))⟩
   have HSF : Aside0 (((((((w6.setCell ⟨g, 0, none⟩ (.string id)).setCell ⟨g, 1, none⟩ (.int .i64 p5)).setCell ⟨g, 2, none⟩ (.int .i64 d5)).setCell ⟨g, 3, none⟩ (.slice none 0 0)).setCell ⟨g, 4, none⟩ (.slice none 0 0)).setCell ⟨g, 5, none⟩ (.slice none 0 0)).heap[w.heap.size + 1]? = some (.cells #[.string ⟨#[]⟩, .int .i64 0, .int .i64 0, .slice none 0 0, .slice none 0 0, .slice none 0 0] 44 (0, 0))) := ⟨((heap_setCell_other (((((w6.setCell ⟨g, 0, none⟩ (.string id)).setCell ⟨g, 1, none⟩ (.int .i64 p5)).setCell ⟨g, 2, none⟩ (.int .i64 d5)).setCell ⟨g, 3, none⟩ (.slice none 0 0)).setCell ⟨g, 4, none⟩ (.slice none 0 0)) ⟨g, 5, none⟩ (w.heap.size + 1) (.slice none 0 0) (by have := HZ.out; show w.heap.size + 1 ≠ g; omega)).trans ((heap_setCell_other ((((w6.setCell ⟨g, 0, none⟩ (.string id)).setCell ⟨g, 1, none⟩ (.int .i64 p5)).setCell ⟨g, 2, none⟩ (.int .i64 d5)).setCell ⟨g, 3, none⟩ (.slice none 0 0)) ⟨g, 4, none⟩ (w.heap.size + 1) (.slice none 0 0) (by have := HZ.out; show w.heap.size + 1 ≠ g; omega)).trans ((heap_setCell_other (((w6.setCell ⟨g, 0, none⟩ (.string id)).setCell ⟨g, 1, none⟩ (.int .i64 p5)).setCell ⟨g, 2, none⟩ (.int .i64 d5)) ⟨g, 3, none⟩ (w.heap.size + 1) (.slice none 0 0) (by have := HZ.out; show w.heap.size + 1 ≠ g; omega)).trans ((heap_setCell_other ((w6.setCell ⟨g, 0, none⟩ (.string id)).setCell ⟨g, 1, none⟩ (.int .i64 p5)) ⟨g, 2, none⟩ (w.heap.size + 1) (.int .i64 d5) (by have := HZ.out; show w.heap.size + 1 ≠ g; omega)).trans ((heap_setCell_other (w6.setCell ⟨g, 0, none⟩ (.string id)) ⟨g, 1, none⟩ (w.heap.size + 1) (.int .i64 p5) (by have := HZ.out; show w.heap.size + 1 ≠ g; omega)).trans ((heap_setCell_other w6 ⟨g, 0, none⟩ (w.heap.size + 1) (.string id) (by have := HZ.out; show w.heap.size + 1 ≠ g; omega)).trans hHeld.2.2.2.1.out))))))⟩
   generalize ((((((w6.setCell ⟨g, 0, none⟩ (.string id)).setCell ⟨g, 1, none⟩ (.int .i64 p5)).setCell ⟨g, 2, none⟩ (.int .i64 d5)).setCell ⟨g, 3, none⟩ (.slice none 0 0)).setCell ⟨g, 4, none⟩ (.slice none 0 0)).setCell ⟨g, 5, none⟩ (.slice none 0 0)) = w7 at *
   clear hHeld
   go_wp2_with fail
   go_meet
   case rel => exact ⟨g, rfl, HZ, HF, HSF, HBF⟩
 case rest =>
  obtain ⟨g, rfl, HZ, HG, HSR, HBW⟩ := hcut
  clear h0 h1 h2 HP2 HS2 HB2 H1 H2 HRU
  have HE0 : Aside0 (lexP l k = lexFrom l (k + 1) k []) := ⟨rfl⟩
  have HY0 : Aside0 (Kd.R k46 46 wc w.heap.size (fun q => g < q) (.slice none 0 0) []) := ⟨Kd.R_nil _ _ _ _ _⟩
  have HT0 : Aside0 (Kd.R k52 52 wc w.heap.size (fun q => g < q) (.slice none 0 0) []) := ⟨Kd.R_nil _ _ _ _ _⟩
  go_wp2_with fail
  go_loopg [6] (k + 1) (fun gg s6 wr => ∃ (a : Int) (n : Nat) (ys : List S46) (A3 : Option Addr) (c3 : Nat) (A5 : Option Addr) (c5 : Nat), s6 = .int .i64 a ∧ (a + 1).toNat ≤ gg ∧ a < n ∧ a < l.length ∧ Aside0 ((ys.length : Int) + 5 * (a + 1) ≤ 5 * l.length) ∧ Aside0 (ys.length ≤ 5 * l.length) ∧ Aside0 (lexP l k = lexFrom l n a ys) ∧ Aside0 (wr.heap[g]? = some (.cells #[.string id, .int .i64 p5, .int .i64 d5, .slice A3 ys.length c3, .slice none 0 0, .slice A5 0 c5] 44 (0, 0))) ∧ Aside0 (wr.heap[w.heap.size + 1]? = some (.cells #[.string ⟨#[]⟩, .int .i64 0, .int .i64 0, .slice none 0 0, .slice none 0 0, .slice none 0 0] 44 (0, 0))) ∧ Aside0 (Kd.R k46 46 wr w.heap.size (fun q => g < q) (.slice A3 ys.length c3) ys) ∧ Aside0 (Kd.R k52 52 wr w.heap.size (fun q => g < q) (.slice A5 0 c5) []) ∧ Aside0 (Below w.heap.size w wr))
  case atStart => exact ⟨k, k + 1, [], none, 0, none, 0, rfl, by omega, by omega, by omega, ⟨by have := HLL.out; simp; omega⟩, ⟨by simp⟩, HE0, HG, HSR, HY0, HT0, HBW⟩
  case round =>
   clear HE0 HY0 HT0 HG HSR HBW
   obtain ⟨a, n, ys, A3, c3, A5, c5, rfl, hgg, han, hal, HYL, HYM, HE, HG, HSR, HY, HT, HBW⟩ := hrel
   have hw1 : wrap64 ((l.length : Int) - 1) = (l.length : Int) - 1 := by have := HLL.out; rw [wrap64]; omega
   have HWI := Aside0.mk (within_w a 0 ((l.length : Int) - 1))
   cases hin : withinP a 0 ((l.length : Int) - 1) with
   | false =>
    rw [hin] at HWI
    have HG0 : Aside0 (lexP l k = ys) := ⟨by
     rw [HE.out]
     cases n with
     | zero => rfl
     | succ n => rw [lexFrom, if_neg (by rw [hin]; decide)]⟩
    have HYB : Aside0 (ys.length * 32 ≤ 140737488355328) := ⟨by have h1 := HYM.out; have h2 := HLL.out; omega⟩
    clear hin HE
    go_wp2_with fail
    refine (HWI.out _).mono ?_
    rintro e W5 ⟨rfl, hB⟩
    replace HG := Aside0.mk (blk_below HG.out hB)
    replace HSR := Aside0.mk (blk_below HSR.out hB)
    replace HY := Aside0.mk (Kd.R_below HY.out hB)
    replace HT := Aside0.mk (Kd.R_below HT.out hB)
    have HW5 : Aside0 (Below w.heap.size w W5) := ⟨below_step HBW.out hB⟩
    have hg3 : W5.cell? ⟨g, 3, none⟩ = some (.slice A3 ys.length c3) := blk_cell HG.out 3
    have hg5 : W5.cell? ⟨g, 5, none⟩ = some (.slice A5 0 c5) := blk_cell HG.out 5
    clear hB HWI HBW
    go_wp2_with fail
    refine start_ (n := 10) (S := fun w' => w'.cell? ⟨g, 3, none⟩ = some (.slice A3 ys.length c3) ∧ w'.cell? ⟨g, 5, none⟩ = some (.slice A5 0 c5) ∧ Aside0 (Below W5.heap.size W5 w')) (ds := [7, 9]) (f_ 10 0) (by kernel_rfl) rfl rfl ⟨hg3, hg5, ⟨pw_below_drewN (Below.refl _ _) 1⟩⟩ (fun hHeld => ?_)
    generalize W5.drew = w3 at *
    refine pure_ (i := 0) (N := some 59) (v := ?_) (a' := ?_) (f_ 10 1) rfl rfl (by kernel_rfl) (fun _ _ _ h => h) (Or.inl ⟨by rfl, ?_⟩) ?_ ?_
    rotate_left
    ·intro w'
     go_simp
     try with_reducible rfl
    rotate_left
    ·simp only [Act.put, s1_, s2_, s3_, i64_w, i32_w]
     rfl
    refine take_ (i := 1) (N := some 60) (v := ?_) (a' := ?_) (f_ 10 2) rfl rfl (by kernel_rfl) (fun _ _ _ h => h) (Or.inl ⟨by rfl, ?_⟩) hHeld ?_ ?_
    rotate_left
    ·rintro w' ⟨s0, s1, s2⟩
     go_simp
     try with_reducible rfl
    rotate_left
    ·simp only [Act.put, s1_, s2_, s3_, i64_w, i32_w]
     rfl
    refine pure_ (i := 3) (N := some 62) (v := ?_) (a' := ?_) #[true, true, false, true, false, false, false, false, false, false] rfl rfl (by kernel_rfl) (fun _ _ _ h => h) (Or.inl ⟨by rfl, ?_⟩) ?_ ?_
    rotate_left
    ·intro w'
     go_simp
     try with_reducible rfl
    rotate_left
    ·simp only [Act.put, s1_, s2_, s3_, i64_w, i32_w]
     rfl
    refine take_ (i := 4) (N := some 63) (v := ?_) (a' := ?_) #[true, true, false, true, true, false, false, false, false, false] rfl rfl (by kernel_rfl) (fun _ _ _ h => h) (Or.inl ⟨by rfl, ?_⟩) hHeld ?_ ?_
    rotate_left
    ·rintro w' ⟨s0, s1, s2⟩
     go_simp
     try with_reducible rfl
    rotate_left
    ·simp only [Act.put, s1_, s2_, s3_, i64_w, i32_w]
     rfl
    refine one_ (i := 2) (N := some 61) (f_ 10 5) rfl rfl (by kernel_rfl) (by decide) (fun K hK => ?_)
    refine goes_ Tryz.func65 (by kernel_rfl) rfl #[.slice A3 ys.length c3] (by rfl) rfl rfl (by (try simp only [List.map_toArray, List.map_cons, List.map_nil]); rfl) ?_
    have HSZ : Aside0 (g + 1 ≤ w3.heap.size ∧ w.heap.size ≤ w3.heap.size) := ⟨Nat.le_trans (blk_lt HG.out) hHeld.2.2.out.size, Nat.le_trans HW5.out.size hHeld.2.2.out.size⟩
    refine (cloneE A3 c3 ys w3 (g + 1) w.heap.size (Kd.R_below HY.out hHeld.2.2.out) HSZ.out.1 HSZ.out.2 HYB.out).mono ?_
    rintro e w4 ⟨v3, rfl, hR, hB⟩
    have HR3 := Aside0.mk hR
    refine ⟨_, rfl, ?_⟩
    refine hK.out _ _ ⟨pw_cell_below hB hHeld.1, pw_cell_below hB hHeld.2.1, ⟨below_step hHeld.2.2.out hB⟩⟩ (fun hHeld => ?_)
    clear hK K
    refine norm_ (a' := ?_) ?_ ?_
    rotate_left
    ·show Act.put _ (some 61) _ = _
     simp only [Act.put, s1_, s2_, s3_, i64_w, i32_w]
     rfl
    refine pure_ (i := 6) (N := some 65) (v := ?_) (a' := ?_) #[true, true, true, true, true, false, true, false, false, false] rfl rfl (by kernel_rfl) (fun _ _ _ h => h) (Or.inl ⟨by rfl, ?_⟩) ?_ ?_
    rotate_left
    ·intro w'
     go_simp
     try with_reducible rfl
    rotate_left
    ·simp only [Act.put, s1_, s2_, s3_, i64_w, i32_w]
     rfl
    refine one_ (i := 5) (N := some 64) (f_ 10 7) rfl rfl (by kernel_rfl) (by decide) (fun K hK => ?_)
    refine goes_ Tryz.func66 (by kernel_rfl) rfl #[.slice A5 0 c5] (by rfl) rfl rfl (by (try simp only [List.map_toArray, List.map_cons, List.map_nil]); rfl) ?_
    have HSZ4 : Aside0 (g + 1 ≤ w4.heap.size ∧ w.heap.size ≤ w4.heap.size) := ⟨Nat.le_trans (blk_lt HG.out) hHeld.2.2.out.size, Nat.le_trans HW5.out.size hHeld.2.2.out.size⟩
    refine (cloneS A5 c5 [] w4 (g + 1) w.heap.size (Kd.R_below HT.out hHeld.2.2.out) HSZ4.out.1 HSZ4.out.2 (by simp)).mono ?_
    rintro e w5 ⟨v5, rfl, hR, hB⟩
    have HR5 := Aside0.mk hR
    have HR4 := Aside0.mk (Kd.R_below HR3.out hB)
    have HG5 := Aside0.mk (blk_below HG.out (below_step hHeld.2.2.out hB))
    obtain ⟨B3, e3, hs3⟩ := Kd.R_slice HR4.out
    obtain ⟨B5, e5, hs5⟩ := Kd.R_slice HR5.out
    subst hs3
    subst hs5
    refine ⟨_, rfl, ?_⟩
    refine hK.out _ _ ⟨pw_cell_below hB hHeld.1, pw_cell_below hB hHeld.2.1, ⟨below_step hHeld.2.2.out hB⟩⟩ (fun hHeld => ?_)
    clear hK K
    refine norm_ (a' := ?_) ?_ ?_
    rotate_left
    ·show Act.put _ (some 64) _ = _
     simp only [Act.put, s1_, s2_, s3_, i64_w, i32_w]
     rfl
    refine last_ (i := 7) (N := none) (f_ 10 8) rfl rfl (by kernel_rfl) (by decide) (fun K hK => ?_)
    have hz3 := hHeld.1
    have hz5 := hHeld.2.1
    have hy3 := blk_frozen HG5.out 3
    have hy5 := blk_frozen HG5.out 5
    refine skip_ (w1 := ?_) (by rfl) rfl ?_ ?_
    rotate_left
    ·go_simp
     rfl
    refine hK.out _ _ ?_
    clear hK K
    refine pure_ (i := 8) (N := some 66) (v := ?_) (a' := ?_) (f_ 10 9) rfl rfl (by kernel_rfl) (fun _ _ _ h => h) (Or.inl ⟨by rfl, ?_⟩) ?_ ?_
    rotate_left
    ·intro w'
     go_simp
     try with_reducible rfl
    rotate_left
    ·simp only [Act.put, s1_, s2_, s3_, i64_w, i32_w]
     rfl
    refine last_ (i := 9) (N := none) (f_ 10 10) rfl rfl (by kernel_rfl) (by decide) (fun K hK => ?_)
    refine skip_ (w1 := ?_) (by rfl) rfl ?_ ?_
    rotate_left
    ·go_simp
     rfl
    refine hK.out _ _ ?_
    clear hK K
    refine done_ (by kernel_rfl) ?_
    have HB5 := hHeld.2.2
    have HGE : Aside0 (w.heap.size ≤ g ∧ w.heap.size + 1 ≠ g) := ⟨by have := HZ.out; omega⟩
    have HG7 : Aside0 (((w5.setCell ⟨g, 3, none⟩ (.slice B3 ys.length e3)).setCell ⟨g, 5, none⟩ (.slice B5 0 e5)).heap[g]? = some (.cells #[.string id, .int .i64 p5, .int .i64 d5, .slice B3 ys.length e3, .slice none 0 0, .slice B5 0 e5] 44 (0, 0))) := ⟨by simpa using blk_set (blk_set HG5.out 3 (.slice B3 ys.length e3)) 5 (.slice B5 0 e5)⟩
    have HSR7 : Aside0 (((w5.setCell ⟨g, 3, none⟩ (.slice B3 ys.length e3)).setCell ⟨g, 5, none⟩ (.slice B5 0 e5)).heap[w.heap.size + 1]? = some (.cells #[.string ⟨#[]⟩, .int .i64 0, .int .i64 0, .slice none 0 0, .slice none 0 0, .slice none 0 0] 44 (0, 0))) := ⟨(heap_setCell_other _ ⟨g, 5, none⟩ _ _ HGE.out.2).trans ((heap_setCell_other w5 ⟨g, 3, none⟩ _ _ HGE.out.2).trans (blk_below HSR.out HB5.out))⟩
    have HW7 : Aside0 (Below w.heap.size w ((w5.setCell ⟨g, 3, none⟩ (.slice B3 ys.length e3)).setCell ⟨g, 5, none⟩ (.slice B5 0 e5))) := ⟨Below.setCell (p := ⟨g, 5, none⟩) (Below.setCell (p := ⟨g, 3, none⟩) (below_step HW5.out HB5.out) HGE.out.1 _) HGE.out.1 _⟩
    have HL7 := Aside0.mk (Kd.R_far (Kd.R_far HR4.out (p := ⟨g, 3, none⟩) (fun q hq => Nat.ne_of_gt hq) (.slice B3 ys.length e3)) (p := ⟨g, 5, none⟩) (fun q hq => Nat.ne_of_gt hq) (.slice B5 0 e5))
    have HT7 := Aside0.mk (Kd.R_far (Kd.R_far HR5.out (p := ⟨g, 3, none⟩) (fun q hq => Nat.ne_of_gt hq) (.slice B3 ys.length e3)) (p := ⟨g, 5, none⟩) (fun q hq => Nat.ne_of_gt hq) (.slice B5 0 e5))
    change Aside0 (Kd.R _ _ ((w5.setCell ⟨g, 3, none⟩ (.slice B3 ys.length e3)).setCell ⟨g, 5, none⟩ (.slice B5 0 e5)) _ _ (.slice B5 0 e5) []) at HT7
    generalize ((w5.setCell ⟨g, 3, none⟩ (.slice B3 ys.length e3)).setCell ⟨g, 5, none⟩ (.slice B5 0 e5)) = w7 at *
    clear hHeld HB5 HG5 HR3 HR4 HR5 HG HSR HY HT HW5 hg3 hg5 hz3 hz5 hy3 hy5
    have ha0 := blk_cell HG7.out 0
    have hb0 := blk_cell HSR7.out 0
    have hf0 := blk_frozen HSR7.out 0
    have ha1 := blk_cell HG7.out 1
    have hb1 := blk_cell HSR7.out 1
    have hf1 := blk_frozen HSR7.out 1
    have ha2 := blk_cell HG7.out 2
    have hb2 := blk_cell HSR7.out 2
    have hf2 := blk_frozen HSR7.out 2
    have ha3 := blk_cell HG7.out 3
    have hb3 := blk_cell HSR7.out 3
    have hf3 := blk_frozen HSR7.out 3
    have ha4 := blk_cell HG7.out 4
    have hb4 := blk_cell HSR7.out 4
    have hf4 := blk_frozen HSR7.out 4
    have ha5 := blk_cell HG7.out 5
    have hb5 := blk_cell HSR7.out 5
    have hf5 := blk_frozen HSR7.out 5
    have hu1 := Tryz.underlying44
    go_wp2
    have hb7 : ((((((w7.setCell ⟨w.heap.size + 1, 0, none⟩ (.string id)).setCell ⟨w.heap.size + 1, 1, none⟩ (.int .i64 p5)).setCell ⟨w.heap.size + 1, 2, none⟩ (.int .i64 d5)).setCell ⟨w.heap.size + 1, 3, none⟩ (.slice B3 ys.length e3)).setCell ⟨w.heap.size + 1, 4, none⟩ (.slice none 0 0)).setCell ⟨w.heap.size + 1, 5, none⟩ (.slice B5 0 e5)).heap[w.heap.size + 1]? = some (.cells #[.string id, .int .i64 p5, .int .i64 d5, .slice B3 ys.length e3, .slice none 0 0, .slice B5 0 e5] 44 (0, 0)) := by simpa using (blk_set (blk_set (blk_set (blk_set (blk_set (blk_set HSR7.out 0 (.string id)) 1 (.int .i64 p5)) 2 (.int .i64 d5)) 3 (.slice B3 ys.length e3)) 4 (.slice none 0 0)) 5 (.slice B5 0 e5))
    refine bodyPost_ret (results_ct rfl _ _ (w.heap.size + 1) 44 #[.string id, .int .i64 p5, .int .i64 d5, .slice B3 ys.length e3, .slice none 0 0, .slice B5 0 e5] (0, 0) _ rfl hb7 Tryz.underlying44 rfl (by kernel_rfl)) rfl ?_
    rw [HG0.out]
    exact ⟨_, _, _, rfl, Kd.R_mono (Kd.R_far (Kd.R_far (Kd.R_far (Kd.R_far (Kd.R_far (Kd.R_far HL7.out (p := ⟨w.heap.size + 1, 0, none⟩) (fun q hq => by have := HZ.out; show q ≠ w.heap.size + 1; omega) (.string id)) (p := ⟨w.heap.size + 1, 1, none⟩) (fun q hq => by have := HZ.out; show q ≠ w.heap.size + 1; omega) (.int .i64 p5)) (p := ⟨w.heap.size + 1, 2, none⟩) (fun q hq => by have := HZ.out; show q ≠ w.heap.size + 1; omega) (.int .i64 d5)) (p := ⟨w.heap.size + 1, 3, none⟩) (fun q hq => by have := HZ.out; show q ≠ w.heap.size + 1; omega) (.slice B3 ys.length e3)) (p := ⟨w.heap.size + 1, 4, none⟩) (fun q hq => by have := HZ.out; show q ≠ w.heap.size + 1; omega) (.slice none 0 0)) (p := ⟨w.heap.size + 1, 5, none⟩) (fun q hq => by have := HZ.out; show q ≠ w.heap.size + 1; omega) (.slice B5 0 e5)) (fun _ _ => trivial), Kd.S_nil _ _ _ _ _, Kd.S_of_none (Kd.R_mono (Kd.R_far (Kd.R_far (Kd.R_far (Kd.R_far (Kd.R_far (Kd.R_far HT7.out (p := ⟨w.heap.size + 1, 0, none⟩) (fun q hq => by have := HZ.out; show q ≠ w.heap.size + 1; omega) (.string id)) (p := ⟨w.heap.size + 1, 1, none⟩) (fun q hq => by have := HZ.out; show q ≠ w.heap.size + 1; omega) (.int .i64 p5)) (p := ⟨w.heap.size + 1, 2, none⟩) (fun q hq => by have := HZ.out; show q ≠ w.heap.size + 1; omega) (.int .i64 d5)) (p := ⟨w.heap.size + 1, 3, none⟩) (fun q hq => by have := HZ.out; show q ≠ w.heap.size + 1; omega) (.slice B3 ys.length e3)) (p := ⟨w.heap.size + 1, 4, none⟩) (fun q hq => by have := HZ.out; show q ≠ w.heap.size + 1; omega) (.slice none 0 0)) (p := ⟨w.heap.size + 1, 5, none⟩) (fun q hq => by have := HZ.out; show q ≠ w.heap.size + 1; omega) (.slice B5 0 e5)) (fun _ _ => trivial)), (Below.setCell (p := ⟨w.heap.size + 1, 5, none⟩) (Below.setCell (p := ⟨w.heap.size + 1, 4, none⟩) (Below.setCell (p := ⟨w.heap.size + 1, 3, none⟩) (Below.setCell (p := ⟨w.heap.size + 1, 2, none⟩) (Below.setCell (p := ⟨w.heap.size + 1, 1, none⟩) (Below.setCell (p := ⟨w.heap.size + 1, 0, none⟩) HW7.out (Nat.le_succ _) (.string id)) (Nat.le_succ _) (.int .i64 p5)) (Nat.le_succ _) (.int .i64 d5)) (Nat.le_succ _) (.slice B3 ys.length e3)) (Nat.le_succ _) (.slice none 0 0)) (Nat.le_succ _) (.slice B5 0 e5))⟩
   | true =>
    rw [hin] at HWI
    have hr2 : 0 ≤ a ∧ a ≤ (l.length : Int) - 1 := by
     unfold withinP at hin
     simpa using hin
    obtain ⟨j, rfl⟩ : ∃ j : Nat, a = (j : Int) := ⟨a.toNat, by omega⟩
    have hj : j < l.length := by omega
    have hjz : (j : Int) < (l.length : Int) := by omega
    obtain ⟨n, rfl⟩ : ∃ m, n = m + 1 := ⟨n - 1, by omega⟩
    have HE1 : Aside0 (lexP l k = lexFrom l n (parentP l j) ((rd_T44 l (j : Int)).f3 ++ ys)) := ⟨by rw [HE.out, lexFrom, if_pos hin]⟩
    have HPL1 := Aside0.mk (parentP_lt l (j : Int) (by omega))
    have hy : rd_T44 l (j : Int) = l[j] := by
     show l.getD (j : Int).toNat _ = _
     rw [Int.toNat_natCast, List.getD_eq_getElem?_getD, List.getElem?_eq_getElem hj]
     rfl
    have hx3 : (rd_T44 l (j : Int)).f3.length ≤ 5 := by rw [hy]; exact HLX.out _ (List.getElem_mem hj)
    have hx5 : (rd_T44 l (j : Int)).f5 = [] := by rw [hy]; exact (HPL.out _ (List.getElem_mem hj)).2
    obtain ⟨ad', B3, d3, B4, d4, B5, d5', hA, h0, h1, h2, h3, h4, h5, l3, g3, l4, g4, l5, g5⟩ := at_T44 HR.out (j : Int) (by omega) hjz
    injection hA with hA
    subst hA
    rw [Int.toNat_natCast] at h3 h5
    rw [hx5] at h5
    generalize (rd_T44 l (j : Int)).f3 = lx at *
    have HLC := Aside0.mk g3
    have H3 := Aside0.mk h3
    have H5 : Aside0 (w.cell? ⟨(ad.add (j * 6)).block, (ad.add (j * 6)).off + 5, none⟩ = some (.slice B5 0 d5')) := ⟨h5⟩
    have HLX3 := Aside0.mk hx3
    have HPW := Aside0.mk (fun W (hB : Below w.heap.size w W) => parent_w (some ad) c l (j : Int) W (Kd.C_below HR.out hB) HC.out (by omega) hjz)
    clear hin HE hr2 h0 h1 h2 h3 h4 h5 l3 g3 l4 g4 l5 g5 hy hx3 hx5
    go_wp2_with fail
    refine (HWI.out _).mono ?_
    rintro e W5 ⟨rfl, hB⟩
    replace HG := Aside0.mk (blk_below HG.out hB)
    replace HSR := Aside0.mk (blk_below HSR.out hB)
    replace HY := Aside0.mk (Kd.R_below HY.out hB)
    replace HT := Aside0.mk (Kd.R_below HT.out hB)
    have HW5 : Aside0 (Below w.heap.size w W5) := ⟨below_step HBW.out hB⟩
    have HLY : Aside0 (lx.length + ys.length ≤ 1000000) := ⟨by have := HYL.out; have := HLX3.out; have := HLL.out; omega⟩
    have hl3 := pw_cell_below HW5.out H3.out
    have hg3 : W5.cell? ⟨g, 3, none⟩ = some (.slice A3 ys.length c3) := blk_cell HG.out 3
    clear hB HWI HBW
    go_wp2_with fail
    refine start_ (n := 11) (S := fun w' => w'.cell? ⟨(ad.add (j * 6)).block, (ad.add (j * 6)).off + 3, none⟩ = some (.slice B3 lx.length d3) ∧ w'.cell? ⟨g, 3, none⟩ = some (.slice A3 ys.length c3) ∧ Aside0 (Below W5.heap.size W5 w')) (ds := [10]) (f_ 11 0) (by kernel_rfl) rfl rfl ⟨hl3, hg3, ⟨pw_below_drewN (Below.refl _ _) 1⟩⟩ (fun hHeld => ?_)
    generalize W5.drew = w3 at *
    refine pure_ (i := 0) (N := some 38) (v := ?_) (a' := ?_) (f_ 11 1) rfl rfl (by kernel_rfl) (fun _ _ _ h => h) (Or.inl ⟨by rfl, ?_⟩) ?_ ?_
    rotate_left
    ·intro w'
     go_simp
     try with_reducible rfl
    rotate_left
    ·simp only [Act.put, s1_, s2_, s3_, i64_w, i32_w]
     rfl
    refine pure_ (i := 1) (N := some 39) (v := ?_) (a' := ?_) (f_ 11 2) rfl rfl (by kernel_rfl) (fun _ _ _ h => h) (Or.inl ⟨by rfl, ?_⟩) ?_ ?_
    rotate_left
    ·intro w'
     go_simp
     try with_reducible rfl
    rotate_left
    ·simp only [Act.put, s1_, s2_, s3_, i64_w, i32_w]
     rfl
    refine pure_ (i := 2) (N := some 40) (v := ?_) (a' := ?_) (f_ 11 3) rfl rfl (by kernel_rfl) (fun _ _ _ h => h) (Or.inl ⟨by rfl, ?_⟩) ?_ ?_
    rotate_left
    ·intro w'
     go_simp
     try with_reducible rfl
    rotate_left
    ·simp only [Act.put, s1_, s2_, s3_, i64_w, i32_w]
     rfl
    refine pure_ (i := 3) (N := some 41) (v := ?_) (a' := ?_) (f_ 11 4) rfl rfl (by kernel_rfl) (fun _ _ _ h => h) (Or.inl ⟨by rfl, ?_⟩) ?_ ?_
    rotate_left
    ·intro w'
     go_simp
     try with_reducible rfl
    rotate_left
    ·simp only [Act.put, s1_, s2_, s3_, i64_w, i32_w]
     rfl
    refine take_ (i := 4) (N := some 42) (v := ?_) (a' := ?_) (f_ 11 5) rfl rfl (by kernel_rfl) (fun _ _ _ h => h) (Or.inl ⟨by rfl, ?_⟩) hHeld ?_ ?_
    rotate_left
    ·rintro w' ⟨s0, s1, s2⟩
     go_simp
     try with_reducible rfl
    rotate_left
    ·simp only [Act.put, s1_, s2_, s3_, i64_w, i32_w]
     rfl
    refine pure_ (i := 5) (N := some 43) (v := ?_) (a' := ?_) (f_ 11 6) rfl rfl (by kernel_rfl) (fun _ _ _ h => h) (Or.inl ⟨by rfl, ?_⟩) ?_ ?_
    rotate_left
    ·intro w'
     go_simp
     try with_reducible rfl
    rotate_left
    ·simp only [Act.put, s1_, s2_, s3_, i64_w, i32_w]
     rfl
    refine take_ (i := 6) (N := some 44) (v := ?_) (a' := ?_) (f_ 11 7) rfl rfl (by kernel_rfl) (fun _ _ _ h => h) (Or.inl ⟨by rfl, ?_⟩) hHeld ?_ ?_
    rotate_left
    ·rintro w' ⟨s0, s1, s2⟩
     go_simp
     try with_reducible rfl
    rotate_left
    ·simp only [Act.put, s1_, s2_, s3_, i64_w, i32_w]
     rfl
    refine one_ (i := 7) (N := some 45) (f_ 11 8) rfl rfl (by kernel_rfl) (by decide) (fun K hK => ?_)
    refine value_ (w1 := ?_) (v := ?_) (by rfl) rfl ?_ ?_
    rotate_left 2
    ·go_simp
     constructor
     ·rfl
     ·rfl
    have hB := below_alloc (Below.refl w3.heap.size w3) (.cells #[.slice B3 lx.length d3, .slice A3 ys.length c3] 40)
    have HCO := Aside0.mk (concatE_walk w3.heap.size B3 A3 d3 c3 lx ys (w3.alloc (.cells #[.slice B3 lx.length d3, .slice A3 ys.length c3] 40)) (blk_cell (blk_new w3 _) 0) (blk_cell (blk_new w3 _) 1) (Kd.C_below HLC.out (below_step HW5.out (below_step hHeld.2.2.out hB))) (Kd.C_below (Kd.R_reads' HY.out).2.2 (below_step hHeld.2.2.out hB)) HLY.out)
    have HSZ : Aside0 (g < (w3.alloc (.cells #[.slice B3 lx.length d3, .slice A3 ys.length c3] 40)).heap.size) := ⟨Nat.lt_of_lt_of_le (blk_lt HG.out) (below_step hHeld.2.2.out hB).size⟩
    refine hK.out _ _ ⟨pw_cell_below hB hHeld.1, pw_cell_below hB hHeld.2.1, ⟨below_step hHeld.2.2.out hB⟩⟩ (fun hHeld => ?_)
    clear hK K
    generalize w3.heap.size = g3 at *
    generalize w3.alloc (.cells #[.slice B3 lx.length d3, .slice A3 ys.length c3] 40) = w4 at *
    have hK := trivial
    have K := trivial
    clear hK K
    refine norm_ (a' := ?_) ?_ ?_
    rotate_left
    ·show Act.put _ (some 45) _ = _
     simp only [Act.put, s1_, s2_, s3_, i64_w, i32_w]
     rfl
    refine one_ (i := 8) (N := some 46) (f_ 11 9) rfl rfl (by kernel_rfl) (by decide) (fun K hK => ?_)
    refine goes_ Tryz.func61 (by kernel_rfl) rfl #[.slice (some ⟨g3, 0, none⟩) 2 2] (by rfl) rfl rfl (by (try simp only [List.map_toArray, List.map_cons, List.map_nil]); rfl) ?_
    refine HCO.out.mono ?_
    rintro e w5 ⟨v7, rfl, hR, hB⟩
    obtain ⟨A7, c7, hs7⟩ := Kd.R_slice hR
    subst hs7
    have HZL : Aside0 ((lx ++ ys).length = lx.length + ys.length) := ⟨List.length_append⟩
    generalize lx ++ ys = zs at *
    have HRC := Aside0.mk (Kd.R_mono (Kd.R_lower hR (Nat.le_trans HW5.out.size hHeld.2.2.out.size)) (ok' := fun q => g < q) (fun q hq => Nat.lt_of_lt_of_le HSZ.out hq))
    have HG5 := Aside0.mk (blk_below HG.out (below_step hHeld.2.2.out hB))
    refine ⟨_, rfl, ?_⟩
    refine hK.out _ _ ⟨pw_cell_below hB hHeld.1, pw_cell_below hB hHeld.2.1, ⟨below_step hHeld.2.2.out hB⟩⟩ (fun hHeld => ?_)
    clear hK K
    refine norm_ (a' := ?_) ?_ ?_
    rotate_left
    ·show Act.put _ (some 46) _ = _
     simp only [Act.put, s1_, s2_, s3_, i64_w, i32_w]
     rfl
    refine pure_ (i := 9) (N := some 47) (v := ?_) (a' := ?_) (f_ 11 10) rfl rfl (by kernel_rfl) (fun _ _ _ h => h) (Or.inl ⟨by rfl, ?_⟩) ?_ ?_
    rotate_left
    ·intro w'
     go_simp
     try with_reducible rfl
    rotate_left
    ·simp only [Act.put, s1_, s2_, s3_, i64_w, i32_w]
     rfl
    refine last_ (i := 10) (N := none) (f_ 11 11) rfl rfl (by kernel_rfl) (by decide) (fun K hK => ?_)
    have hz := hHeld.2.1
    have hy := blk_frozen HG5.out 3
    refine skip_ (w1 := ?_) (by rfl) rfl ?_ ?_
    rotate_left
    ·go_simp
     rfl
    refine hK.out _ _ ?_
    clear hK K
    refine done_ (by kernel_rfl) ?_
    have HG6 : Aside0 ((w5.setCell ⟨g, 3, none⟩ (.slice A7 zs.length c7)).heap[g]? = some (.cells #[.string id, .int .i64 p5, .int .i64 d5, .slice A7 zs.length c7, .slice none 0 0, .slice A5 0 c5] 44 (0, 0))) := ⟨by simpa using blk_set HG5.out 3 (.slice A7 zs.length c7)⟩
    have HB5 := hHeld.2.2
    have HGE : Aside0 (w.heap.size ≤ g ∧ w.heap.size + 1 ≠ g) := ⟨by have := HZ.out; omega⟩
    have HSR6 : Aside0 ((w5.setCell ⟨g, 3, none⟩ (.slice A7 zs.length c7)).heap[w.heap.size + 1]? = some (.cells #[.string ⟨#[]⟩, .int .i64 0, .int .i64 0, .slice none 0 0, .slice none 0 0, .slice none 0 0] 44 (0, 0))) := ⟨(heap_setCell_other w5 ⟨g, 3, none⟩ _ _ HGE.out.2).trans (blk_below HSR.out HB5.out)⟩
    have HW6 : Aside0 (Below w.heap.size w (w5.setCell ⟨g, 3, none⟩ (.slice A7 zs.length c7))) := ⟨Below.setCell (p := ⟨g, 3, none⟩) (below_step HW5.out HB5.out) HGE.out.1 _⟩
    have HY6 := Aside0.mk (Kd.R_far HRC.out (p := ⟨g, 3, none⟩) (fun q hq => Nat.ne_of_gt hq) (.slice A7 zs.length c7))
    have HT6 := Aside0.mk (Kd.R_far (Kd.R_below HT.out HB5.out) (p := ⟨g, 3, none⟩) (fun q hq => Nat.ne_of_gt hq) (.slice A7 zs.length c7))
    generalize w5.setCell ⟨g, 3, none⟩ (.slice A7 zs.length c7) = W6 at *
    clear hHeld HB5 HG5 HRC HCO HSZ HG HSR HY HT HW5 hl3 hg3 hz hy
    have HG := HG6
    have hl5 := pw_cell_below HW6.out H5.out
    have hg5 : W6.cell? ⟨g, 5, none⟩ = some (.slice A5 0 c5) := blk_cell HG6.out 5
    go_wp2_with fail
    refine start_ (n := 12) (S := fun w' => w'.cell? ⟨(ad.add (j * 6)).block, (ad.add (j * 6)).off + 5, none⟩ = some (.slice B5 0 d5') ∧ w'.cell? ⟨g, 5, none⟩ = some (.slice A5 0 c5) ∧ Aside0 (Below W6.heap.size W6 w')) (ds := [11]) (f_ 12 0) (by kernel_rfl) rfl rfl ⟨hl5, hg5, ⟨pw_below_drewN (Below.refl _ _) 1⟩⟩ (fun hHeld => ?_)
    generalize W6.drew = w3 at *
    refine pure_ (i := 0) (N := some 48) (v := ?_) (a' := ?_) (f_ 12 1) rfl rfl (by kernel_rfl) (fun _ _ _ h => h) (Or.inl ⟨by rfl, ?_⟩) ?_ ?_
    rotate_left
    ·intro w'
     go_simp
     try with_reducible rfl
    rotate_left
    ·simp only [Act.put, s1_, s2_, s3_, i64_w, i32_w]
     rfl
    refine pure_ (i := 1) (N := some 49) (v := ?_) (a' := ?_) (f_ 12 2) rfl rfl (by kernel_rfl) (fun _ _ _ h => h) (Or.inl ⟨by rfl, ?_⟩) ?_ ?_
    rotate_left
    ·intro w'
     go_simp
     try with_reducible rfl
    rotate_left
    ·simp only [Act.put, s1_, s2_, s3_, i64_w, i32_w]
     rfl
    refine pure_ (i := 2) (N := some 50) (v := ?_) (a' := ?_) (f_ 12 3) rfl rfl (by kernel_rfl) (fun _ _ _ h => h) (Or.inl ⟨by rfl, ?_⟩) ?_ ?_
    rotate_left
    ·intro w'
     go_simp
     try with_reducible rfl
    rotate_left
    ·simp only [Act.put, s1_, s2_, s3_, i64_w, i32_w]
     rfl
    refine pure_ (i := 3) (N := some 51) (v := ?_) (a' := ?_) (f_ 12 4) rfl rfl (by kernel_rfl) (fun _ _ _ h => h) (Or.inl ⟨by rfl, ?_⟩) ?_ ?_
    rotate_left
    ·intro w'
     go_simp
     try with_reducible rfl
    rotate_left
    ·simp only [Act.put, s1_, s2_, s3_, i64_w, i32_w]
     rfl
    refine take_ (i := 4) (N := some 52) (v := ?_) (a' := ?_) (f_ 12 5) rfl rfl (by kernel_rfl) (fun _ _ _ h => h) (Or.inl ⟨by rfl, ?_⟩) hHeld ?_ ?_
    rotate_left
    ·rintro w' ⟨s0, s1, s2⟩
     go_simp
     try with_reducible rfl
    rotate_left
    ·simp only [Act.put, s1_, s2_, s3_, i64_w, i32_w]
     rfl
    refine pure_ (i := 6) (N := some 54) (v := ?_) (a' := ?_) #[true, true, true, true, true, false, true, false, false, false, false, false] rfl rfl (by kernel_rfl) (fun _ _ _ h => h) (Or.inl ⟨by rfl, ?_⟩) ?_ ?_
    rotate_left
    ·intro w'
     go_simp
     try with_reducible rfl
    rotate_left
    ·simp only [Act.put, s1_, s2_, s3_, i64_w, i32_w]
     rfl
    refine take_ (i := 7) (N := some 55) (v := ?_) (a' := ?_) #[true, true, true, true, true, false, true, true, false, false, false, false] rfl rfl (by kernel_rfl) (fun _ _ _ h => h) (Or.inl ⟨by rfl, ?_⟩) hHeld ?_ ?_
    rotate_left
    ·rintro w' ⟨s0, s1, s2⟩
     go_simp
     try with_reducible rfl
    rotate_left
    ·simp only [Act.put, s1_, s2_, s3_, i64_w, i32_w]
     rfl
    refine one_ (i := 5) (N := some 53) (f_ 12 8) rfl rfl (by kernel_rfl) (by decide) (fun K hK => ?_)
    refine goes_ Tryz.func63 (by kernel_rfl) rfl #[.slice B5 0 d5', .func (.func 64) #[] #[]] (by rfl) rfl rfl (by (try simp only [List.map_toArray, List.map_cons, List.map_nil]); rfl) ?_
    refine (mappedS_nil B5 d5' _ _).mono ?_
    rintro e w4 ⟨rfl, hB⟩
    refine ⟨_, rfl, ?_⟩
    refine hK.out _ _ ⟨pw_cell_below hB hHeld.1, pw_cell_below hB hHeld.2.1, ⟨below_step hHeld.2.2.out hB⟩⟩ (fun hHeld => ?_)
    clear hK K
    refine norm_ (a' := ?_) ?_ ?_
    rotate_left
    ·show Act.put _ (some 53) _ = _
     simp only [Act.put, s1_, s2_, s3_, i64_w, i32_w]
     rfl
    refine one_ (i := 8) (N := some 56) (f_ 12 9) rfl rfl (by kernel_rfl) (by decide) (fun K hK => ?_)
    refine value_ (w1 := ?_) (v := ?_) (by rfl) rfl ?_ ?_
    rotate_left 2
    ·go_simp
     constructor
     ·rfl
     ·rfl
    have hB := below_alloc (Below.refl w4.heap.size w4) (.cells #[.slice none 0 0, .slice A5 0 c5] 42)
    have HCO := Aside0.mk (concatS_nil w4.heap.size none A5 0 c5 (w4.alloc (.cells #[.slice none 0 0, .slice A5 0 c5] 42)) (blk_cell (blk_new w4 _) 0) (blk_cell (blk_new w4 _) 1))
    have HSZ : Aside0 (g < (w4.alloc (.cells #[.slice none 0 0, .slice A5 0 c5] 42)).heap.size) := ⟨Nat.lt_of_lt_of_le (blk_lt HG.out) (below_step hHeld.2.2.out hB).size⟩
    refine hK.out _ _ ⟨pw_cell_below hB hHeld.1, pw_cell_below hB hHeld.2.1, ⟨below_step hHeld.2.2.out hB⟩⟩ (fun hHeld => ?_)
    clear hK K
    generalize w4.heap.size = g3 at *
    generalize w4.alloc (.cells #[.slice none 0 0, .slice A5 0 c5] 42) = w5 at *
    have hK := trivial
    have K := trivial
    clear hK K
    refine norm_ (a' := ?_) ?_ ?_
    rotate_left
    ·show Act.put _ (some 56) _ = _
     simp only [Act.put, s1_, s2_, s3_, i64_w, i32_w]
     rfl
    refine one_ (i := 9) (N := some 57) (f_ 12 10) rfl rfl (by kernel_rfl) (by decide) (fun K hK => ?_)
    refine goes_ Tryz.func62 (by kernel_rfl) rfl #[.slice (some ⟨g3, 0, none⟩) 2 2] (by rfl) rfl rfl (by (try simp only [List.map_toArray, List.map_cons, List.map_nil]); rfl) ?_
    refine HCO.out.mono ?_
    rintro e w6 ⟨v7, rfl, hR, hB⟩
    obtain ⟨A8, c8, hs7⟩ := Kd.R_slice hR
    have hs8 : v7 = .slice A8 0 c8 := hs7
    subst hs8
    have HRS8 := Aside0.mk (Kd.R_mono (Kd.R_lower hR (Nat.le_trans HW6.out.size hHeld.2.2.out.size)) (ok' := fun q => g < q) (fun q hq => Nat.lt_of_lt_of_le HSZ.out hq))
    have HG5 := Aside0.mk (blk_below HG.out (below_step hHeld.2.2.out hB))
    clear hs7
    refine ⟨_, rfl, ?_⟩
    refine hK.out _ _ ⟨pw_cell_below hB hHeld.1, pw_cell_below hB hHeld.2.1, ⟨below_step hHeld.2.2.out hB⟩⟩ (fun hHeld => ?_)
    clear hK K
    refine norm_ (a' := ?_) ?_ ?_
    rotate_left
    ·show Act.put _ (some 57) _ = _
     simp only [Act.put, s1_, s2_, s3_, i64_w, i32_w]
     rfl
    refine pure_ (i := 10) (N := some 58) (v := ?_) (a' := ?_) (f_ 12 11) rfl rfl (by kernel_rfl) (fun _ _ _ h => h) (Or.inl ⟨by rfl, ?_⟩) ?_ ?_
    rotate_left
    ·intro w'
     go_simp
     try with_reducible rfl
    rotate_left
    ·simp only [Act.put, s1_, s2_, s3_, i64_w, i32_w]
     rfl
    refine last_ (i := 11) (N := none) (f_ 12 12) rfl rfl (by kernel_rfl) (by decide) (fun K hK => ?_)
    have hz := hHeld.2.1
    have hy := blk_frozen HG5.out 5
    refine skip_ (w1 := ?_) (by rfl) rfl ?_ ?_
    rotate_left
    ·go_simp
     rfl
    refine hK.out _ _ ?_
    clear hK K
    refine done_ (by kernel_rfl) ?_
    have HG7 : Aside0 ((w6.setCell ⟨g, 5, none⟩ (.slice A8 0 c8)).heap[g]? = some (.cells #[.string id, .int .i64 p5, .int .i64 d5, .slice A7 zs.length c7, .slice none 0 0, .slice A8 0 c8] 44 (0, 0))) := ⟨by simpa using blk_set HG5.out 5 (.slice A8 0 c8)⟩
    have HB5 := hHeld.2.2
    have HSR7 : Aside0 ((w6.setCell ⟨g, 5, none⟩ (.slice A8 0 c8)).heap[w.heap.size + 1]? = some (.cells #[.string ⟨#[]⟩, .int .i64 0, .int .i64 0, .slice none 0 0, .slice none 0 0, .slice none 0 0] 44 (0, 0))) := ⟨(heap_setCell_other w6 ⟨g, 5, none⟩ _ _ HGE.out.2).trans (blk_below HSR6.out HB5.out)⟩
    have HW7 : Aside0 (Below w.heap.size w (w6.setCell ⟨g, 5, none⟩ (.slice A8 0 c8))) := ⟨Below.setCell (p := ⟨g, 5, none⟩) (below_step HW6.out HB5.out) HGE.out.1 _⟩
    have HY7 := Aside0.mk (Kd.R_far (Kd.R_below HY6.out HB5.out) (p := ⟨g, 5, none⟩) (fun q hq => Nat.ne_of_gt hq) (.slice A8 0 c8))
    have HT7 := Aside0.mk (Kd.R_far HRS8.out (p := ⟨g, 5, none⟩) (fun q hq => Nat.ne_of_gt hq) (.slice A8 0 c8))
    generalize w6.setCell ⟨g, 5, none⟩ (.slice A8 0 c8) = W7 at *
    have HYL7 : Aside0 ((zs.length : Int) + 5 * (parentP l j + 1) ≤ 5 * l.length) := ⟨by rw [HZL.out]; have h1 := HYL.out; have h2 := HLX3.out; have h3 := HPL1.out; omega⟩
    have HYM7 : Aside0 (zs.length ≤ 5 * l.length) := ⟨by rw [HZL.out]; have h1 := HYL.out; have h2 := HLX3.out; omega⟩
    clear hHeld HB5 HG5 HG6 HSR6 HW6 HY6 HT6 HRS8 HCO HSZ HG hl5 hg5 hz hy HYL
    go_wp2_with fail
    refine (HPW.out _ HW7.out).mono ?_
    rintro e W8 ⟨rfl, hB⟩
    replace HG7 := Aside0.mk (blk_below HG7.out hB)
    replace HSR7 := Aside0.mk (blk_below HSR7.out hB)
    replace HY7 := Aside0.mk (Kd.R_below HY7.out hB)
    replace HT7 := Aside0.mk (Kd.R_below HT7.out hB)
    replace HW7 : Aside0 (Below w.heap.size w W8) := ⟨below_step HW7.out hB⟩
    have hp := HPL1.out
    clear hB HPW HPL1
    generalize parentP l (j : Int) = q at *
    go_wp2
    go_roundg ((q + 1).toNat)
    case measure => omega
    case rel => exact ⟨q, n, zs, A7, c7, A8, c8, rfl, by omega, by omega, by omega, HYL7, HYM7, HE1, HG7, HSR7, HY7, HT7, HW7⟩
end Go.Proofs.YtiocgaekoeekgaaGreat.P
end
section
namespace Go.Proofs.YtiocgaekoeekgaaGreat.P
open Go.RowKit Go.Proofs.YtiocgaekoeekgaaGreatW.PrintWords Go.Proofs.YtiocgaekoeekgaaGreatW.PrintLast Go.Proofs.YtiocgaekoeekgaaGreatW.PrintMore
attribute [local go_sem] max2_int min2_int max_two min_two max_three min_three max_four min_four   
set_option linter.unusedVariables false
set_option linter.unusedSimpArgs false
theorem Reach.inv {next : Int → List Int} {l0 : List Int} {P : Int → Prop} (h0 : ∀ x ∈ l0, P x) (hs : ∀ x, P x → ∀ y ∈ next x, P y) {y : Int} (h : Reach next l0 y) : P y := by
 induction h with
 | base h => exact h0 _ h
 | step _ h ih => exact hs _ ih _ h
theorem Reach.mono {next next' : Int → List Int} {l0 l0' : List Int} (hd : ∀ x, inSym x → ∀ y ∈ next x, inSym y) (hl : ∀ x ∈ l0, inSym x) (h0 : ∀ x ∈ l0, x ∈ l0') (hs : ∀ x, inSym x → ∀ y ∈ next x, y ∈ next' x) {y : Int} (h : Reach next l0 y) : Reach next' l0' y := by
 have : Reach next' l0' y ∧ inSym y := by
  induction h with
  | base h => exact ⟨.base (h0 _ h), hl _ h⟩
  | step _ h ih => exact ⟨.step ih.1 (hs _ ih.2 _ h), hd _ ih.2 _ h⟩
 exact this.1
def hits (r : Rule') (p : Int × Int) : Prop := r.f1 = [p.2] ∧ inSym p.2 ∧ r.f0 = p.1
theorem hits_iff (r : Rule') (p : Int × Int) : hits r p ↔ (r.f1.length = 1 ∧ 0 ≤ rd r.f1 0 ∧ rd r.f1 0 < 20) ∧ p = (r.f0, rd r.f1 0) := by
 unfold hits inSym
 constructor
 ·rintro ⟨h1, h2, h3⟩
  have h4 : rd r.f1 0 = p.2 := by rw [h1]; rfl
  rw [h4, h3, h1]
  exact ⟨⟨rfl, h2⟩, rfl⟩
 ·rintro ⟨⟨h1, h2, h3⟩, rfl⟩
  refine ⟨?_, ⟨h2, h3⟩, rfl⟩
  match hr : r.f1, h1 with
  | [x], _ => simp [rd]
theorem found_pos (p : Int × Int) : ∀ (l : List Rule') (m : List ((Int × Int) × Int)), (∀ q, 0 ≤ (mget m q).getD 0) → (0 < (mget (l.foldl foundStep m) p).getD 0 ↔ 0 < (mget m p).getD 0 ∨ ∃ r ∈ l, hits r p)
 | [], m, h => by simp
 | r :: l, m, h => by
  have h2 : ∀ q, 0 ≤ (mget (foundStep m r) q).getD 0 := by
   intro q
   unfold foundStep
   split
   ·by_cases e : q = (r.f0, rd r.f1 0)
    ·subst e
     rw [mget_mput_same]
     have := h (r.f0, rd r.f1 0)
     simp only [Option.getD_some]
     omega
    ·rw [mget_mput_other _ _ _ e]; exact h q
   ·exact h q
  rw [List.foldl_cons, found_pos p l _ h2]
  have h3 : 0 < (mget (foundStep m r) p).getD 0 ↔ 0 < (mget m p).getD 0 ∨ hits r p := by
   rw [hits_iff]
   unfold foundStep
   split
   case isTrue hc =>
    by_cases e : p = (r.f0, rd r.f1 0)
    ·have := h p
     rw [e, mget_mput_same]
     simp only [Option.getD_some]
     rw [e] at this
     constructor
     ·intro _; exact .inr ⟨hc, trivial⟩
     ·intro _; omega
    ·rw [mget_mput_other _ _ _ e]
     exact ⟨.inl, fun h => h.elim id (fun h => absurd h.2 e)⟩
   case isFalse hc => exact ⟨.inl, fun h => h.elim id (fun h => absurd h.1 hc)⟩
  rw [h3, or_assoc]
  simp
theorem mem_rowsNext (l0 : List Rule') (x : Int) (hx : inSym x) (y : Int) : y ∈ rowsNext l0 x ↔ inSym y ∧ ∃ r ∈ l0, r.f0 = x ∧ r.f1 = [y] := by
 obtain ⟨n, rfl⟩ : ∃ n : Nat, x = n := ⟨x.toNat, by have := hx.1; omega⟩
 rw [rowsNext_at l0 n (by have := hx.2; omega)]
 unfold rowUpto foundL
 rw [List.mem_filter]
 have hm : y ∈ (List.range 20).map (fun (x : Nat) => (x : Int)) ↔ inSym y := mem_symbols y
 rw [hm, decide_eq_true_eq, found_pos _ l0 [] (fun q => by simp [mget])]
 simp only [mget, Option.getD_none, Int.lt_irrefl, false_or, hits]
 constructor
 ·rintro ⟨h1, r, hr, h2, _, h3⟩
  exact ⟨h1, r, hr, h3, h2⟩
 ·rintro ⟨h1, r, hr, h2, h3⟩
  exact ⟨h1, r, hr, h3, h1, h2⟩
theorem leadsBack_iff (l0 : List Rule') (x : Int) (hx : inSym x) : leadsBack l0 x = true ↔ Reach (rowsNext l0) (rowsNext l0 x) x := by
 unfold leadsBack
 rw [decide_eq_true_eq, mem_reachL (rowsNext_sym l0) (rowsNext_sym l0 x hx)]
theorem checkP_iff (l0 : List Rule') : checkP l0 = true ↔ l0.length ≤ 60 ∧ l0.all rightR = true ∧ ∀ x, inSym x → ¬ Reach (rowsNext l0) (rowsNext l0 x) x := by
 unfold checkP
 rw [Bool.and_eq_true, Bool.and_eq_true, decide_eq_true_eq, List.all_eq_true (l := symbols)]
 refine and_congr Iff.rfl (and_congr Iff.rfl ⟨fun h x hx => ?_, fun h x hx => ?_⟩)
 ·have h1 := h x ((mem_symbols x).2 hx)
  rw [← leadsBack_iff l0 x hx]
  intro h2
  rw [h2] at h1
  cases h1
 ·have hx' := (mem_symbols x).1 hx
  have h1 := h x hx'
  rw [← leadsBack_iff l0 x hx'] at h1
  simp [h1]
theorem no_round (l0 : List Rule') (f : Int → Int) (h : ∀ r ∈ l0, ∀ y, r.f1 = [y] → inSym r.f0 → inSym y → f r.f0 < f y) (x : Int) (hx : inSym x) : ¬ Reach (rowsNext l0) (rowsNext l0 x) x := by
 have hstep : ∀ x, inSym x → ∀ y ∈ rowsNext l0 x, f x < f y := by
  intro x hx y hy
  obtain ⟨h1, r, hr, h2, h3⟩ := (mem_rowsNext l0 x hx y).1 hy
  subst h2
  exact h r hr y h3 hx h1
 intro hr
 have := Reach.inv (P := fun y => inSym y ∧ f x < f y) (fun y hy => ⟨rowsNext_sym l0 x hx y hy, hstep x hx y hy⟩) (fun z hz y hy => ⟨rowsNext_sym l0 z hz.1 y hy, Int.lt_trans hz.2 (hstep z hz.1 y hy)⟩) hr
 exact Int.lt_irrefl _ this.2
end Go.Proofs.YtiocgaekoeekgaaGreat.P
end
section
namespace Go.Proofs.YtiocgaekoeekgaaGreat.P
open Go.RowKit Go.Proofs.YtiocgaekoeekgaaGreatW.PrintWords Go.Proofs.YtiocgaekoeekgaaGreatW.PrintLast Go.Proofs.YtiocgaekoeekgaaGreatW.PrintMore
attribute [local go_sem] max2_int min2_int max_two min_two max_three min_three max_four min_four   
set_option linter.unusedVariables false
set_option linter.unusedSimpArgs false
def okLocsB (l : List S44) : Bool := l.all fun x => decide (x.f0.size ≤ 1000000000000) && decide (x.f4.length ≤ 1000000)
theorem okLocs_of {l : List S44} (h : okLocsB l = true) : okLocs l := by
 intro x hx
 have := List.all_eq_true.1 h x hx
 simpa using this
theorem check_nil5 : checkP [] = true := by
 rw [checkP_iff]
 exact ⟨by simp, rfl, fun x hx => no_round _ id (fun r hr => by cases hr) x hx⟩
noncomputable def locPl (l : List S44) (i : Nat) (x : S44) : Bool :=
 idP x.f0 && (!((l.take i).any fun y => y.f0.toList == x.f0.toList) && (withinP x.f1 (-1) ((i : Int) - 1) && (withinP x.f2 0 3 && (!decide (30 < x.f3.length) && (!decide (20 < x.f5.length) && (x.f3.all entryP && (x.f5.all styleP && !decide (60 < x.f4.length))))))))
noncomputable def rightPlF (l : List S44) : Nat → Nat → Bool
 | 0, _ => true
 | n + 1, i => if locPl l i (rd_T44 l (i : Int)) = true then rightPlF l n (i + 1) else false
noncomputable def rightPl (l : List S44) : Bool := if 10 < l.length then false else rightPlF l l.length 0
def plainB (l : List S44) : Bool := l.all fun x => x.f4.isEmpty && x.f5.isEmpty
theorem plainB_of {l : List S44} (h : plainB l = true) : plainL l := by
 intro x hx
 have := List.all_eq_true.1 h x hx
 simp only [Bool.and_eq_true, List.isEmpty_iff] at this
 exact this
theorem rightPlF_eq {l : List S44} (h : plainL l) : ∀ n i : Nat, rightPlF l n i = rightFrom l n i
 | 0, _ => rfl
 | n + 1, i => by
  have hr : rulesP l i = [] := rulesFrom_plain h _ _
  have hl : locOk l i (rd_T44 l (i : Int)) = locPl l i (rd_T44 l (i : Int)) := by
   unfold locOk locPl
   rw [hr, check_nil5, Bool.and_true]
  rw [rightPlF, rightFrom, hl, rightPlF_eq h n (i + 1)]
theorem rightPl_eq {l : List S44} (h : plainL l) : rightPl l = rightP5 l := by
 unfold rightPl rightP5
 rw [rightPlF_eq h]
noncomputable def blob_Right.f (l0 : List S44) : Option Bool := if okLocsB l0 = true then (if plainB l0 = true then some (rightPl l0) else some (rightP5 l0)) else none
theorem blob_Right.calls (A0 : Option Addr) (c0 : Nat) (l0 : List S44) (r : Bool) (w : World) (hr0 : Kd.C k44 w A0 l0.length l0) (hc0 : l0.length ≤ c0) (h : blob_Right.f l0 = some r) :
  Calls Tryz.prog 16 #[.slice A0 l0.length c0] w fun e w' => e = .returned (.bool r) ∧ Below w.heap.size w w' := by
 unfold blob_Right.f at h
 by_cases ho : okLocsB l0 = true
 ·rw [if_pos ho] at h
  have h2 : some (rightP5 l0) = some r := by
   by_cases hp : plainB l0 = true
   ·rw [if_pos hp, rightPl_eq (plainB_of hp)] at h
    exact h
   ·rw [if_neg hp] at h
    exact h
  obtain rfl := Option.some.inj h2
  exact right5_walk A0 c0 l0 w hr0 hc0 (okLocs_of ho)
 ·rw [if_neg ho] at h
  cases h
end Go.Proofs.YtiocgaekoeekgaaGreat.P
end
section
namespace Go.Proofs.YtiocgaekoeekgaaGreat.P
open Go.RowKit Go.Proofs.YtiocgaekoeekgaaGreatW.PrintWords Go.Proofs.YtiocgaekoeekgaaGreatW.PrintLast Go.Proofs.YtiocgaekoeekgaaGreatW.PrintMore
attribute [local go_sem] max2_int min2_int max_two min_two max_three min_three max_four min_four   
set_option linter.unusedVariables false
set_option linter.unusedSimpArgs false
def lowP (n : Int) (l : List Int) : Nat := (l.takeWhile fun x => decide (x < n)).length
def putP (l : List Int) (n : Int) : List Int := if (l.drop (lowP n l)).head? = some n then l else l.take (lowP n l) ++ n :: l.drop (lowP n l)
theorem lowP_eq (n : Int) : ∀ (l : List Int) (k : Nat), k ≤ l.length → (∀ j, j < k → ∀ h : j < l.length, l[j] < n) → (∀ h : k < l.length, ¬ l[k] < n) → lowP n l = k
 | [], k, hk, _, _ => by simp at hk; subst hk; rfl
 | x :: l, 0, _, _, h1 => by
  have h2 := h1 (by simp)
  unfold lowP
  rw [List.takeWhile_cons, if_neg (by simpa using h2)]
  rfl
 | x :: l, k + 1, hk, h0, h1 => by
  have h2 := h0 0 (by omega) (by simp)
  have h3 : x < n := h2
  have h4 := lowP_eq n l k (by simpa using hk) (fun j hj hl => by have := h0 (j + 1) (by omega) (by simpa using hl); simpa using this) (fun hl => by have := h1 (by simpa using hl); simpa using this)
  unfold lowP at h4 ⊢
  rw [List.takeWhile_cons, if_pos (by simpa using h3), List.length_cons, h4]
section
variable {ops : Array Oper} {o : Oper} {a : Act} {Q : Exit → Act → World → Prop} {Kc : Act → World → Prop}
theorem step_gate {W : World} {v : Value} (op : Op) (_h : o.op = op) (h : if Region.wanted o (yielded ops a.tmps) = true then Oper.wp Tryz.prog o a W Kc Q else Kc (a.put o.dst v) W) : if Region.wanted o (yielded ops a.tmps) = true then Oper.wp Tryz.prog o a W Kc Q else Kc (a.put o.dst v) W := h
theorem box_row {W : World} {g : Nat} {n : Int} (h : W.heap[g]? = some (.cells #[.int .i64 n] 3 (0, 0))) : Kd.C (Kd.int .i64) W (some ⟨g, 0, none⟩) 1 [n] :=
 kn_C_of_blk (d := Kd.int .i64) (xs := [n]) (cs := [.int .i64 n]) h (by simp) (kn_one rfl rfl)
theorem made_row {W : World} {base g : Nat} (h : W.heap[g]? = some (.cells #[] 3 (0, 0))) (hb : base ≤ g) : Kd.R (Kd.int .i64) 3 W base (fun _ => True) (.slice (some ⟨g, 0, none⟩) 0 0) ([] : List Int) :=
 ⟨fun _ _ => trivial, [], ⟨rfl, .inr ⟨g, 0, #[], rfl, hb, h, Nat.le_refl _, Nat.zero_le _, rfl, rfl⟩⟩, Reps.none _ _⟩
theorem app_step {w0 W : World} (base : Nat) (hw : Region.wanted o (yielded ops a.tmps) = true) (s x : Operand) (ho : o.op = .call { callee := .builtin .append, args := #[s, x], argTypes := #[35, 35] })
  (v : Value) (xs ys : List Int) (A : Option Addr) (m c : Nat) (hs : a.eval s = v) (hx : a.eval x = .slice A m c)
  (HO : Kd.R (Kd.int .i64) 3 W base (fun _ => True) v xs) (HR : Kd.C (Kd.int .i64) W A m ys) (HB : Below base w0 W) (hbase : base ≤ W.heap.size) (hl : (xs.length + m) * 8 ≤ 140737488355328)
  (h : ∀ v1 w1, Kd.R (Kd.int .i64) 3 w1 base (fun _ => True) v1 (xs ++ ys) → Below base w0 w1 → W.grownBy w1 v.ownBlock → Kc (a.put o.dst v1) w1) :
  if Region.wanted o (yielded ops a.tmps) = true then Oper.wp Tryz.prog o a W Kc Q else Kc (a.put o.dst undef) W :=
 Kd.R_append_rows_step (Kd.int .i64) base hw s x 35 3 (.int .i64 0) 8 ho Tryz.underlying35 info3 rfl (by decide) (by omega) v xs ys A m c (fun _ => True) (fun _ => False) hs hx HO HR (fun _ _ h => h) (fun _ hk => hk.elim) (fun _ _ => trivial) HB hbase hl (fun v1 w1 h1 h2 h3 _ => h v1 w1 h1 h2 h3)
end
set_option maxHeartbeats 4000000 in
set_option maxRecDepth 100000 in
theorem put_walk (A0 : Option Addr) (c0 : Nat) (l : List Int) (n : Int) (w : World) (hr0 : Kd.C (Kd.int .i64) w A0 l.length l) (hc0 : l.length ≤ c0) (hl : l.length ≤ 1000000000000) :
  Calls Tryz.prog 117 #[.slice A0 l.length c0, .int .i64 n] w fun e w' => ∃ v : Value, e = .returned v ∧ Below w.heap.size w w' ∧ ((v = .slice A0 l.length c0 ∧ putP l n = l) ∨ Kd.R (Kd.int .i64) 3 w' w.heap.size (fun _ => True) v (putP l n)) := by
 have HR := Aside0.mk hr0
 have HC := Aside0.mk hc0
 clear hr0 hc0
 go_enter Tryz.func117, Tryz.ntmps117
 go_wp2
 go_loopg [5] l.length (fun gg s5 wr => ∃ kk : Nat, kk ≤ l.length ∧ l.length - kk ≤ gg ∧ s5 = .int .i64 kk ∧ Drawn0 w wr ∧ Aside0 (∀ j, j < kk → ∀ h : j < l.length, l[j] < n))
 case atStart => exact ⟨0, Nat.zero_le _, by omega, rfl, Drawn0.refl _, ⟨fun j hj => absurd hj (Nat.not_lt_zero _)⟩⟩
 case round =>
  obtain ⟨kk, hkk, hgg, rfl, ⟨nd, rfl⟩, AB⟩ := hrel
  by_cases hlt : kk < l.length
  ·have hltz : (kk : Int) < (l.length : Int) := by omega
   obtain ⟨ad, hA, hcell⟩ := Kd.at_int HR.out kk (by omega) hltz
   rw [Int.toNat_natCast] at hcell
   rw [rd_getElem l kk hlt] at hcell
   have hcell2 : (w.drewN nd).cell? (ad.add kk) = some (.int .i64 l[kk]) := hcell
   subst hA
   clear hcell
   by_cases hx : l[kk] < n
   ·have hxb : decide (l[kk] < n) = true := decide_eq_true hx
    generalize hy : l[kk] = y at *
    clear hx
    go_wp2
    go_roundg (l.length - (kk + 1))
    case measure => omega
    case rel =>
     refine ⟨kk + 1, by omega, by omega, by go_num, ⟨_, rfl⟩, ⟨fun j hj hl => ?_⟩⟩
     by_cases e : j = kk
     ·subst e; rw [hy]; exact of_decide_eq_true hxb
     ·exact AB.out j (by omega) hl
   ·have hlow := lowP_eq n l kk hkk AB.out (fun _ => hx)
    by_cases he : l[kk] = n
    ·have hxb : decide (l[kk] < n) = false := decide_eq_false hx
     have heb : decide (l[kk] = n) = true := decide_eq_true he
     have hz : putP l n = l := by
      unfold putP
      rw [hlow, List.head?_drop, List.getElem?_eq_getElem hlt, if_pos (by rw [he])]
     generalize hy : l[kk] = y at *
     clear hx
     go_wp2
     go_ret
     exact ⟨_, rfl, pw_below_drewN (Below.refl _ _) _, .inl ⟨rfl, hz⟩⟩
    ·have hxb : decide (l[kk] < n) = false := decide_eq_false hx
     have heb : decide (l[kk] = n) = false := decide_eq_false he
     have hz : putP l n = l.take kk ++ n :: l.drop kk := by
      unfold putP
      rw [hlow, List.head?_drop, List.getElem?_eq_getElem hlt, if_neg (fun h => he (Option.some.inj h))]
     generalize hy : l[kk] = y at *
     clear hx
     obtain ⟨i0, hi, hz0, hz1, hz2⟩ := info_parts info3
     obtain ⟨htk, htr, htc⟩ := print_take_of (P := Tryz.prog) (Value.int .i64) (0 : Int) 35 3 .i64 Tryz.underlying35 hi hz1 (some ad) c0 l (kk : Int) (by omega) (by omega) HC.out
     obtain ⟨A', hdk, hdr, hdc⟩ := print_drop_of (P := Tryz.prog) (Value.int .i64) (0 : Int) 35 3 .i64 Tryz.underlying35 hi hz1 (some ad) c0 l (kk : Int) (by omega) (by omega) HC.out
     rw [Int.toNat_natCast] at htc hdc
     simp only [Int.toNat_natCast] at htk htr hdk hdr
     have HT := Aside0.mk (Kd.C_of_reads (enc := Value.int .i64) (h1 := fun _ => rfl) (htr w (Kd.reads_of_C (d := (0 : Int)) HR.out)))
     have HD := Aside0.mk (Kd.C_of_reads (enc := Value.int .i64) (h1 := fun _ => rfl) (hdr w (Kd.reads_of_C (d := (0 : Int)) HR.out)))
     have HPZ := Aside0.mk hz
     clear htr hdr htc hdc hi hz0 hz1 hz2 hz
     have hlt1 : (l.take kk).length ≤ 1000000000000 := Nat.le_trans (List.length_take_le _ _) (by omega)
     have hld1 : (l.drop kk).length ≤ 1000000000000 := by rw [List.length_drop]; omega
     generalize l.take kk = lt at *
     generalize l.drop kk = ld at *
     go_wp2
     have hbw : ∀ W, Below w.heap.size w W → Kd.C (Kd.int .i64) W (some ad) lt.length lt ∧ Kd.C (Kd.int .i64) W A' ld.length ld := fun W hb => ⟨Kd.C_below HT.out hb, Kd.C_below HD.out hb⟩
     go_region_law (first
      | (refine step_gate (.call { callee := .builtin .append, args := #[.tmp 33, .tmp 36], argTypes := #[35, 35] }) rfl ?_; refine app_step (w0 := w) w.heap.size (by rfl) (.tmp 33) (.tmp 36) (by rfl) (.slice (some ⟨_, 0, none⟩) 0 0) [] lt (some ad) lt.length c0 (by rfl) (by rfl) (made_row (by repeat (first | exact kn_blk_at (by first | rfl | (simp; done)) | apply kn_blk_alloc)) (by omega)) (hbw _ (by repeat (first | (with_reducible first | exact Below.refl _ _ | exact hb1 | exact hb2 | apply below_alloc | apply pw_below_drewN | apply below_drew1)))).1 (by repeat (first | (with_reducible first | exact Below.refl _ _ | exact hb1 | exact hb2 | apply below_alloc | apply pw_below_drewN | apply below_drew1))) (by first | (simp; done) | (simp; omega)) (by first | omega | (simp; omega)) ?_; intro v1 w1 ho1 hb1 hg1)
      | (refine step_gate (.call { callee := .builtin .append, args := #[.tmp 40, .tmp 43], argTypes := #[35, 35] }) rfl ?_; refine app_step (w0 := w) w.heap.size (by rfl) (.tmp 40) (.tmp 43) (by rfl) v2 (lt ++ [n]) ld A' ld.length (c0 - kk) (by rfl) (by rfl) ho2 (hbw _ hb2).2 hb2 hb2.size (by first | omega | (simp; omega)) ?_; intro v3 w3 ho3 hb3 hg3)
      | (refine step_gate (.call { callee := .builtin .append, args := #[.tmp 37, .tmp 39], argTypes := #[35, 35] }) rfl ?_; refine app_step (w0 := w) w.heap.size (by rfl) (.tmp 37) (.tmp 39) (by rfl) v1 lt [n] _ 1 1 (by rfl) (by rfl) (by first | exact ho1 | exact Kd.R_alloc ho1 _) (box_row (by first | exact kn_blk_at (by first | rfl | (simp; done)) | exact blk_grown (by repeat (first | exact kn_blk_at (by first | rfl | (simp; done)) | apply kn_blk_alloc)) hg1 (by simp [Value.ownBlock] <;> omega))) (by repeat (first | (with_reducible first | exact Below.refl _ _ | exact hb1 | exact hb2 | apply below_alloc | apply pw_below_drewN | apply below_drew1))) (by first | exact hb1.size | (have := hb1.size; simp; omega)) (by first | omega | (simp; omega)) ?_; intro v2 w2 ho2 hb2 hg2))
     all_goals
      go_wp2
      go_ret
      exact ⟨_, rfl, hb3, .inr (by rw [HPZ.out, show lt ++ n :: ld = lt ++ [n] ++ ld by simp]; exact ho3)⟩
  ·have hltz : ¬ (kk : Int) < (l.length : Int) := by omega
   have hke : kk = l.length := by omega
   have hlow := lowP_eq n l kk hkk AB.out (fun h => absurd h hlt)
   have hz : putP l n = l.take kk ++ n :: l.drop kk := by
    unfold putP
    rw [hlow, List.head?_drop, List.getElem?_eq_none (by omega), if_neg (by simp)]
   have hkl : l.length ≤ kk := by omega
   clear hke
   obtain ⟨i0, hi, hz0, hz1, hz2⟩ := info_parts info3
   obtain ⟨htk, htr, htc⟩ := print_take_of (P := Tryz.prog) (Value.int .i64) (0 : Int) 35 3 .i64 Tryz.underlying35 hi hz1 A0 c0 l (kk : Int) (by omega) (by omega) HC.out
   obtain ⟨A', hdk, hdr, hdc⟩ := print_drop_of (P := Tryz.prog) (Value.int .i64) (0 : Int) 35 3 .i64 Tryz.underlying35 hi hz1 A0 c0 l (kk : Int) (by omega) (by omega) HC.out
   rw [Int.toNat_natCast] at htc hdc
   simp only [Int.toNat_natCast] at htk htr hdk hdr
   have HT := Aside0.mk (Kd.C_of_reads (enc := Value.int .i64) (h1 := fun _ => rfl) (htr w (Kd.reads_of_C (d := (0 : Int)) HR.out)))
   have HD := Aside0.mk (Kd.C_of_reads (enc := Value.int .i64) (h1 := fun _ => rfl) (hdr w (Kd.reads_of_C (d := (0 : Int)) HR.out)))
   have HPZ := Aside0.mk hz
   clear htr hdr htc hdc hi hz0 hz1 hz2 hz
   have hlt1 : (l.take kk).length ≤ 1000000000000 := Nat.le_trans (List.length_take_le _ _) (by omega)
   have hld1 : (l.drop kk).length ≤ 1000000000000 := by rw [List.length_drop]; omega
   generalize l.take kk = lt at *
   generalize l.drop kk = ld at *
   go_wp2
   have hbw : ∀ W, Below w.heap.size w W → Kd.C (Kd.int .i64) W A0 lt.length lt ∧ Kd.C (Kd.int .i64) W A' ld.length ld := fun W hb => ⟨Kd.C_below HT.out hb, Kd.C_below HD.out hb⟩
   go_region_law (first
    | (refine step_gate (.call { callee := .builtin .append, args := #[.tmp 33, .tmp 36], argTypes := #[35, 35] }) rfl ?_; refine app_step (w0 := w) w.heap.size (by rfl) (.tmp 33) (.tmp 36) (by rfl) (.slice (some ⟨_, 0, none⟩) 0 0) [] lt A0 lt.length c0 (by rfl) (by rfl) (made_row (by repeat (first | exact kn_blk_at (by first | rfl | (simp; done)) | apply kn_blk_alloc)) (by omega)) (hbw _ (by repeat (first | (with_reducible first | exact Below.refl _ _ | exact hb1 | exact hb2 | apply below_alloc | apply pw_below_drewN | apply below_drew1)))).1 (by repeat (first | (with_reducible first | exact Below.refl _ _ | exact hb1 | exact hb2 | apply below_alloc | apply pw_below_drewN | apply below_drew1))) (by first | (simp; done) | (simp; omega)) (by first | omega | (simp; omega)) ?_; intro v1 w1 ho1 hb1 hg1)
    | (refine step_gate (.call { callee := .builtin .append, args := #[.tmp 40, .tmp 43], argTypes := #[35, 35] }) rfl ?_; refine app_step (w0 := w) w.heap.size (by rfl) (.tmp 40) (.tmp 43) (by rfl) v2 (lt ++ [n]) ld A' ld.length (c0 - kk) (by rfl) (by rfl) ho2 (hbw _ hb2).2 hb2 hb2.size (by first | omega | (simp; omega)) ?_; intro v3 w3 ho3 hb3 hg3)
    | (refine step_gate (.call { callee := .builtin .append, args := #[.tmp 37, .tmp 39], argTypes := #[35, 35] }) rfl ?_; refine app_step (w0 := w) w.heap.size (by rfl) (.tmp 37) (.tmp 39) (by rfl) v1 lt [n] _ 1 1 (by rfl) (by rfl) (by first | exact ho1 | exact Kd.R_alloc ho1 _) (box_row (by first | exact kn_blk_at (by first | rfl | (simp; done)) | exact blk_grown (by repeat (first | exact kn_blk_at (by first | rfl | (simp; done)) | apply kn_blk_alloc)) hg1 (by simp [Value.ownBlock] <;> omega))) (by repeat (first | (with_reducible first | exact Below.refl _ _ | exact hb1 | exact hb2 | apply below_alloc | apply pw_below_drewN | apply below_drew1))) (by first | exact hb1.size | (have := hb1.size; simp; omega)) (by first | omega | (simp; omega)) ?_; intro v2 w2 ho2 hb2 hg2))
   all_goals
    go_wp2
    go_ret
    exact ⟨_, rfl, hb3, .inr (by rw [HPZ.out, show lt ++ n :: ld = lt ++ [n] ++ ld by simp]; exact ho3)⟩
theorem mem_putP (l : List Int) (n : Int) (y : Int) : y ∈ putP l n ↔ y = n ∨ y ∈ l := by
 unfold putP
 split
 case isTrue h =>
  constructor
  ·exact .inr
  ·rintro (rfl | h2)
   ·have : y ∈ l.drop (lowP y l) := by
     cases hd : l.drop (lowP y l) with
     | nil => rw [hd] at h; cases h
     | cons a t => rw [hd] at h; simp at h; simp [h]
    exact List.mem_of_mem_drop this
   ·exact h2
 case isFalse h =>
  rw [List.mem_append, List.mem_cons]
  constructor
  ·rintro (h | rfl | h)
   ·exact .inr (List.mem_of_mem_take h)
   ·exact .inl rfl
   ·exact .inr (List.mem_of_mem_drop h)
  ·rintro (rfl | h)
   ·exact .inr (.inl rfl)
   ·rw [← List.take_append_drop (lowP n l) l, List.mem_append] at h
    rcases h with h | h
    ·exact .inl h
    ·exact .inr (.inr h)
end Go.Proofs.YtiocgaekoeekgaaGreat.P
end
section
namespace Go.Proofs.YtiocgaekoeekgaaGreat.P
open Go.RowKit Go.Proofs.YtiocgaekoeekgaaGreatW.PrintWords Go.Proofs.YtiocgaekoeekgaaGreatW.PrintLast Go.Proofs.YtiocgaekoeekgaaGreatW.PrintMore
attribute [local go_sem] max2_int min2_int max_two min_two max_three min_three max_four min_four   
set_option linter.unusedVariables false
set_option linter.unusedSimpArgs false
def oneOf (r : Rule') : Bool := decide (r.f1.length = 1 ∧ 0 ≤ rd r.f1 0)
def rowStep (rows : Nat → List Int) (r : Rule') : Nat → List Int := fun s => if oneOf r = true ∧ r.f0 = (s : Int) then putP (rows s) (rd r.f1 0) else rows s
def refRows (l : List Rule') : Nat → List Int := l.foldl rowStep (fun _ => [])
theorem refRows_snoc (l : List Rule') (k : Nat) (h : k < l.length) : refRows (l.take (k + 1)) = rowStep (refRows (l.take k)) l[k] := by
 unfold refRows
 rw [List.take_succ_eq_append_getElem h, List.foldl_append]
 rfl
theorem putP_len (l : List Int) (n : Int) : (putP l n).length ≤ l.length + 1 := by
 unfold putP
 split
 ·omega
 ·rw [List.length_append, List.length_cons, List.length_take, List.length_drop]
  have : lowP n l ≤ l.length := by
   unfold lowP
   exact (List.takeWhile_sublist _).length_le
  omega
theorem refRows_len (l : List Rule') (s : Nat) : (refRows l s).length ≤ l.length := by
 suffices h : ∀ (l : List Rule') (rows : Nat → List Int) (n : Nat), (rows s).length ≤ n → (l.foldl rowStep rows s).length ≤ n + l.length by
  have := h l (fun _ => []) 0 (Nat.le_refl _)
  rw [Nat.zero_add] at this
  exact this
 intro l
 induction l with
 | nil => intro rows n h; exact h
 | cons r l ih =>
  intro rows n h
  have h2 : (rowStep rows r s).length ≤ n + 1 := by
   unfold rowStep
   split
   ·exact Nat.le_trans (putP_len _ _) (by omega)
   ·omega
  have := ih (rowStep rows r) (n + 1) h2
  rw [List.foldl_cons, List.length_cons, show n + (l.length + 1) = n + 1 + l.length by omega]
  exact this
def refUnitsP (l0 : List Rule') : List (List Int) := (List.range 20).map (refRows l0)
theorem URows.swap {base g : Nat} {rows rows' : Nat → List Int} {W W1 : World} {vals : List Value} {f : Nat → Nat} {i : Nat} {v0 v1 : Value} (h : URows base g rows 20 W vals f) (hb : Below W.heap.size W W1) (hw : base ≤ W.heap.size) (hv : vals[i]? = some v0) (hrows : ∀ j, j ≠ i → rows' j = rows j)
  (hc : (v1 = v0 ∧ rows' i = rows i) ∨ Kd.R (Kd.int .i64) 3 W1 W.heap.size (fun _ => True) v1 (rows' i)) : ∃ f', URows base g rows' 20 (W1.setCell ⟨g, i, none⟩ v1) (vals.set i v1) f' := by
 have hi : i < vals.length := (List.getElem?_eq_some_iff.1 hv).1
 have hi20 : i < 20 := by have := h.len; omega
 have hgl := blk_lt h.blk
 refine ⟨fun k => if k < W.heap.size then f k else i, by rw [List.length_set]; exact h.len, ?_, h.ge, fun j hj => ?_, fun j hj hj2 => by omega⟩
 ·refine blk_put (blk_below h.blk hb) i v1 ?_
  simp
 ·by_cases e : j = i
  ·subst e
   refine ⟨v1, by rw [List.getElem?_set_self hi], ?_⟩
   rcases hc with ⟨e1, e2⟩ | hR
   ·obtain ⟨v, h1, h2⟩ := h.done j hj
    rw [hv] at h1
    obtain rfl := Option.some.inj h1
    subst e1
    rw [e2]
    refine Kd.R_far (Kd.R_mono (Kd.R_below (Kd.R_bound h2) hb) (fun k hk => ⟨hk.1.1, ?_⟩)) (fun k hk => hk.1) _
    rw [if_pos hk.2.2.1]
    exact hk.1.2
   ·refine Kd.R_far (Kd.R_mono (Kd.R_lower (Kd.R_bound hR) hw) (fun k hk => ⟨?_, ?_⟩)) (fun k hk => hk.1) _
    ·have := hk.2.1
     omega
    ·rw [if_neg (by have := hk.2.1; omega)]
  ·obtain ⟨v, h1, h2⟩ := h.done j hj
   refine ⟨v, by rw [List.getElem?_set_ne (fun h => e h.symm)]; exact h1, ?_⟩
   rw [hrows j e]
   refine Kd.R_far (Kd.R_mono (Kd.R_below (Kd.R_bound h2) hb) (fun k hk => ⟨hk.1.1, ?_⟩)) (fun k hk => hk.1) _
   rw [if_pos hk.2.2.1]
   exact hk.1.2
theorem URows.below {base g : Nat} {rows : Nat → List Int} {W W1 : World} {vals : List Value} {f : Nat → Nat} {i : Nat} (h : URows base g rows i W vals f) (hb : Below W.heap.size W W1) : URows base g rows i W1 vals f :=
 ⟨h.len, blk_below h.blk hb, h.ge, fun j hj => by obtain ⟨v, h1, h2⟩ := h.done j hj; exact ⟨v, h1, Kd.R_below h2 hb⟩, h.rest⟩
theorem URows.same {base g : Nat} {rows rows' : Nat → List Int} {W : World} {vals : List Value} {f : Nat → Nat} {i : Nat} (h : URows base g rows i W vals f) (he : ∀ j, j < i → rows' j = rows j) : URows base g rows' i W vals f :=
 ⟨h.len, h.blk, h.ge, fun j hj => by rw [he j hj]; exact h.done j hj, h.rest⟩
theorem put_calls (A0 : Option Addr) (c0 n0 : Nat) (l : List Int) (n : Int) (w : World) (hr0 : Kd.C (Kd.int .i64) w A0 n0 l) (hc0 : n0 ≤ c0) (hl : n0 ≤ 1000000000000) (hn : l.length = n0) :
  Calls Tryz.prog 117 #[.slice A0 n0 c0, .int .i64 n] w fun e w' => ∃ A n1 c, e = .returned (.slice A n1 c) ∧ Below w.heap.size w w' ∧ ((.slice A n1 c = Value.slice A0 n0 c0 ∧ putP l n = l) ∨ Kd.R (Kd.int .i64) 3 w' w.heap.size (fun _ => True) (.slice A n1 c) (putP l n)) := by
 subst hn
 refine (put_walk A0 c0 l n w hr0 hc0 hl).mono ?_
 rintro e w' ⟨v, rfl, hb, hcase⟩
 have : ∃ A n1 c, v = .slice A n1 c := by
  rcases hcase with ⟨rfl, _⟩ | h
  ·exact ⟨_, _, _, rfl⟩
  ·obtain ⟨A, c, rfl⟩ := Kd.R_slice h
   exact ⟨_, _, _, rfl⟩
 obtain ⟨A, n1, c, rfl⟩ := this
 exact ⟨A, n1, c, rfl, hb, hcase⟩
set_option maxHeartbeats 4000000 in
set_option maxRecDepth 100000 in
theorem refUnits_walk (A0 : Option Addr) (c0 : Nat) (l0 : List Rule') (w : World) (hr0 : Kd.C k56 w A0 l0.length l0) (hc0 : l0.length ≤ c0) (hu : unitsB l0 = true) :
  Calls Tryz.prog 68 #[.slice A0 l0.length c0] w fun e w' => ∃ v0_ : Value, e = .returned (v0_) ∧ Kd.S (Kd.slice 3 (Kd.int .i64)) 35 w' w.heap.size (fun _ => True) v0_ (refUnitsP l0) ∧ Below w.heap.size w w' := by
 have hu2 := hu
 simp only [unitsB, Bool.and_eq_true, List.all_eq_true, decide_eq_true_eq] at hu2
 obtain ⟨hu3, hlen⟩ := hu2
 have HU := Aside0.mk hu3
 have HR := Aside0.mk hr0
 have HC := Aside0.mk hc0
 clear hr0 hc0 hu hu3
 have hmk : ∀ w, (Instr.makeSlice 111 (.int .i64 20) (.int .i64 20)).run Tryz.prog w = .ok (.slice (some ⟨w.heap.size, 0, none⟩) 20 20) (w.alloc (.cells (List.replicate 20 (Value.slice none 0 0)).toArray 35)) := fun _ => by kernel_rfl
 have HU0 : Aside0 (∃ vals f, URows w.heap.size w.heap.size (fun _ => []) 20 (w.alloc (.cells (List.replicate 20 (Value.slice none 0 0)).toArray 35)) vals f) :=
  ⟨List.replicate 20 (.slice none 0 0), fun _ => 0, ⟨by simp, blk_new _ _, Nat.le_refl _, fun j hj => ⟨.slice none 0 0, by rw [List.getElem?_replicate, if_pos hj], Kd.R_nil _ _ _ _ _⟩, fun j hj hj2 => by omega⟩⟩
 have HB1 := Aside0.mk (below_alloc (Below.refl w.heap.size w) (.cells (List.replicate 20 (Value.slice none 0 0)).toArray 35))
 go_enter Tryz.func68, Tryz.ntmps68
 go_wp2
 clear hmk
 go_loopg [4] l0.length (fun gg s4 wr => ∃ kk : Nat, kk ≤ l0.length ∧ l0.length - kk ≤ gg ∧ s4 = .int .i64 kk ∧ Aside0 (∃ vals f, URows w.heap.size w.heap.size (refRows (l0.take kk)) 20 wr vals f) ∧ Aside0 (Below w.heap.size w wr))
 case atStart => exact ⟨0, Nat.zero_le _, by omega, rfl, HU0, HB1⟩
 case round =>
  clear HU0 HB1
  obtain ⟨kk, hkk, hgg, rfl, HX, HB⟩ := hrel
  by_cases hlt : kk < l0.length
  ·have hltz : (kk : Int) < (l0.length : Int) := by omega
   obtain ⟨ad, A1, c1, A3, c3, hA, h0, h1, h2, h3, h4, l1, g1, l3, g3⟩ := at_T56 (Kd.C_below HR.out HB.out) kk (by omega) hltz
   have hx : rd_T56 l0 kk = l0[kk] := by simp [rd_T56, List.getD_eq_getElem?_getD, List.getElem?_eq_getElem hlt]
   have hsn := refRows_snoc l0 kk hlt
   have hyr := HU.out _ (List.getElem_mem hlt)
   rw [← hx] at hsn hyr
   generalize rd_T56 l0 kk = y at *
   rw [Int.toNat_natCast] at h0 h1 h2 h3 h4
   subst hA
   obtain ⟨hy0, hy1⟩ := hyr
   obtain ⟨s, hs⟩ : ∃ s : Nat, y.f0 = s := ⟨y.f0.toNat, by omega⟩
   have hs20 : s < 20 := by omega
   have HSN := Aside0.mk hsn
   have HS := Aside0.mk hs
   clear hx l3 g3 hsn
   rw [hs] at h0 hy0 hy1
   clear hs
   by_cases hone : y.f1.length = 1
   ·obtain ⟨ad1, hA1, hcell⟩ := Kd.at_int g1 0 (by omega) (by omega)
    have hcell' : wr.cell? ad1 = some (.int .i64 (rd y.f1 0)) := hcell
    subst hA1
    have hlx : wr.heap.size > ad1.block := World.block_lt_of_cell? wr _ hcell'
    have hce : (wr.alloc (.cells #[.int .i64 s, .slice (some ad1) 1 c1, .int .i64 y.f2.f0, .slice A3 y.f2.f1.length c3, .int .i64 y.f3] 56)).cell? ad1 = some (.int .i64 (rd y.f1 0)) := (World.cell?_alloc_lt _ _ _ hlx).trans hcell'
    rw [hone] at h1
    generalize hrd : rd y.f1 0 = x at *
    have HRDX := Aside0.mk hrd
    clear hrd hcell g1 hcell' hlx
    have HBK := Aside0.mk (blk_new wr (.cells #[.int .i64 s, .slice (some ad1) 1 c1, .int .i64 y.f2.f0, .slice A3 y.f2.f1.length c3, .int .i64 y.f3] 56))
    have HB1 := Aside0.mk (below_alloc HB.out (.cells #[.int .i64 s, .slice (some ad1) 1 c1, .int .i64 y.f2.f0, .slice A3 y.f2.f1.length c3, .int .i64 y.f3] 56))
    have HX1 : Aside0 (∃ vals f, URows w.heap.size w.heap.size (refRows (l0.take kk)) 20 (wr.alloc (.cells #[.int .i64 s, .slice (some ad1) 1 c1, .int .i64 y.f2.f0, .slice A3 y.f2.f1.length c3, .int .i64 y.f3] 56)) vals f) := ⟨by obtain ⟨vals, f, h⟩ := HX.out; exact ⟨vals, f, h.below (below_alloc (Below.refl _ _) _)⟩⟩
    have hd0 := blk_cell HBK.out 0
    have hd1 := blk_cell HBK.out 1
    simp only [List.getElem?_toArray, List.getElem?_cons_succ, List.getElem?_cons_zero] at hd0 hd1
    by_cases hx0 : 0 ≤ x
    ·have HST : Aside0 (∀ j : Nat, refRows (l0.take (kk + 1)) j = if j = s then putP (refRows (l0.take kk) s) x else refRows (l0.take kk) j) := ⟨by
      intro j
      rw [HSN.out]
      unfold rowStep
      rw [HRDX.out, HS.out]
      by_cases e : j = s
      ·subst e
       rw [if_pos rfl, if_pos ⟨decide_eq_true ⟨hone, by rw [HRDX.out]; exact hx0⟩, rfl⟩]
      ·rw [if_neg e, if_neg (fun h => e (by have := h.2; omega))]⟩
     obtain ⟨vals, f, hX⟩ := HX1.out
     have HX1 := Aside0.mk hX
     obtain ⟨v, hv, hRs⟩ := hX.done s hs20
     obtain ⟨Au, cu, rfl, hle, hCu⟩ := Kd.R_reads hRs
     have hcg : (wr.alloc (.cells #[.int .i64 s, .slice (some ad1) 1 c1, .int .i64 y.f2.f0, .slice A3 y.f2.f1.length c3, .int .i64 y.f3] 56)).cell? ⟨w.heap.size, s, none⟩ = some (.slice Au (refRows (l0.take kk) s).length cu) := (blk_cell hX.blk s).trans (by rw [List.getElem?_toArray]; exact hv)
     have HV := Aside0.mk hv
     have HLE := Aside0.mk hle
     have HRD1 := Aside0.mk hCu
     have HLL : Aside0 ((refRows (l0.take kk) s).length ≤ 1000000000000) := ⟨Nat.le_trans (refRows_len _ _) (Nat.le_trans (List.length_take_le _ _) (by omega))⟩
     generalize hnu : (refRows (l0.take kk) s).length = nu at *
     have HNU := Aside0.mk hnu
     clear hv hX hRs hle hCu hnu
     clear HX HB
     go_wp2
     generalize wr.alloc (.cells #[.int .i64 s, .slice (some ad1) 1 c1, .int .i64 y.f2.f0, .slice A3 y.f2.f1.length c3, .int .i64 y.f3] 56) = W1 at *
     generalize wr.heap.size = b at *
     have HSZ0 := Aside0.mk HB1.out.size
     generalize w.heap.size = g at *
     refine start_ (n := 15) (S := fun w' => w'.cell? ⟨b, 0, none⟩ = some (.int .i64 s) ∧ w'.cell? ⟨b, 1, none⟩ = some (.slice (some ad1) 1 c1) ∧ w'.cell? ad1 = some (.int .i64 x) ∧ w'.cell? ⟨g, s, none⟩ = some (.slice Au nu cu)) (ds := [14]) (f_ 15 0) (by kernel_rfl) rfl rfl ⟨hd0, hd1, hce, hcg⟩ (fun hHeld => ?_)
     have HX2 : Aside0 (URows g g (refRows (l0.take kk)) 20 W1.drew vals f) := ⟨HX1.out.below (below_drew (Below.refl _ _))⟩
     have HB2 : Aside0 (Below g w W1.drew) := ⟨below_drew HB1.out⟩
     have HRD : Aside0 (Kd.C (Kd.int .i64) W1.drew Au nu (refRows (l0.take kk) s)) := ⟨Kd.C_below HRD1.out (below_drew (Below.refl _ _))⟩
     have HBG : Aside0 (W1.drew.heap[g]? = some (.cells vals.toArray 35 (0, 0))) := ⟨HX2.out.blk⟩
     have HSZ : Aside0 (g ≤ W1.drew.heap.size) := ⟨HSZ0.out⟩
     clear HX1 HB1 HRD1
     generalize W1.drew = W2 at *
     refine pure_ (i := 0) (N := some 28) (v := ?_) (a' := ?_) (f_ 15 1) rfl rfl (by kernel_rfl) (fun _ _ _ h => h) (Or.inl ⟨by rfl, ?_⟩) ?_ ?_
     rotate_left
     ·intro w'
      go_simp
      try with_reducible rfl
     rotate_left
     ·simp only [Act.put, s1_, s2_, s3_, i64_w, i32_w]
      rfl
     refine pure_ (i := 1) (N := some 29) (v := ?_) (a' := ?_) (f_ 15 2) rfl rfl (by kernel_rfl) (fun _ _ _ h => h) (Or.inl ⟨by rfl, ?_⟩) ?_ ?_
     rotate_left
     ·intro w'
      go_simp
      try with_reducible rfl
     rotate_left
     ·simp only [Act.put, s1_, s2_, s3_, i64_w, i32_w]
      rfl
     refine take_ (i := 2) (N := some 30) (v := ?_) (a' := ?_) (f_ 15 3) rfl rfl (by kernel_rfl) (fun _ _ _ h => h) (Or.inl ⟨by rfl, ?_⟩) hHeld ?_ ?_
     rotate_left
     ·rintro w' ⟨s0, s1, s2, s3⟩
      go_simp
      try with_reducible rfl
     rotate_left
     ·simp only [Act.put, s1_, s2_, s3_, i64_w, i32_w]
      rfl
     refine pure_ (i := 3) (N := some 31) (v := ?_) (a' := ?_) (f_ 15 4) rfl rfl (by kernel_rfl) (fun _ _ _ h => h) (Or.inl ⟨by rfl, ?_⟩) ?_ ?_
     rotate_left
     ·intro w'
      go_simp
      try with_reducible rfl
     rotate_left
     ·simp only [Act.put, s1_, s2_, s3_, i64_w, i32_w]
      rfl
     refine pure_ (i := 4) (N := some 32) (v := ?_) (a' := ?_) (f_ 15 5) rfl rfl (by kernel_rfl) (fun _ _ _ h => h) (Or.inl ⟨by rfl, ?_⟩) ?_ ?_
     rotate_left
     ·intro w'
      go_simp
      try with_reducible rfl
     rotate_left
     ·simp only [Act.put, s1_, s2_, s3_, i64_w, i32_w]
      rfl
     refine take_ (i := 5) (N := some 33) (v := ?_) (a' := ?_) (f_ 15 6) rfl rfl (by kernel_rfl) (fun _ _ _ h => h) (Or.inl ⟨by rfl, ?_⟩) hHeld ?_ ?_
     rotate_left
     ·rintro w' ⟨s0, s1, s2, s3⟩
      go_simp
      try with_reducible rfl
     rotate_left
     ·simp only [Act.put, s1_, s2_, s3_, i64_w, i32_w]
      rfl
     refine pure_ (i := 6) (N := some 34) (v := ?_) (a' := ?_) (f_ 15 7) rfl rfl (by kernel_rfl) (fun _ _ _ h => h) (Or.inl ⟨by rfl, ?_⟩) ?_ ?_
     rotate_left
     ·intro w'
      go_simp
      try with_reducible rfl
     rotate_left
     ·simp only [Act.put, s1_, s2_, s3_, i64_w, i32_w]
      rfl
     refine take_ (i := 7) (N := some 35) (v := ?_) (a' := ?_) (f_ 15 8) rfl rfl (by kernel_rfl) (fun _ _ _ h => h) (Or.inl ⟨by rfl, ?_⟩) hHeld ?_ ?_
     rotate_left
     ·rintro w' ⟨s0, s1, s2, s3⟩
      go_simp
      try with_reducible rfl
     rotate_left
     ·simp only [Act.put, s1_, s2_, s3_, i64_w, i32_w]
      rfl
     refine pure_ (i := 8) (N := some 36) (v := ?_) (a' := ?_) (f_ 15 9) rfl rfl (by kernel_rfl) (fun _ _ _ h => h) (Or.inl ⟨by rfl, ?_⟩) ?_ ?_
     rotate_left
     ·intro w'
      go_simp
      try with_reducible rfl
     rotate_left
     ·simp only [Act.put, s1_, s2_, s3_, i64_w, i32_w]
      rfl
     refine take_ (i := 9) (N := some 37) (v := ?_) (a' := ?_) (f_ 15 10) rfl rfl (by kernel_rfl) (fun _ _ _ h => h) (Or.inl ⟨by rfl, ?_⟩) hHeld ?_ ?_
     rotate_left
     ·rintro w' ⟨s0, s1, s2, s3⟩
      go_simp
      try with_reducible rfl
     rotate_left
     ·simp only [Act.put, s1_, s2_, s3_, i64_w, i32_w]
      rfl
     refine pure_ (i := 10) (N := some 38) (v := ?_) (a' := ?_) (f_ 15 11) rfl rfl (by kernel_rfl) (fun _ _ _ h => h) (Or.inl ⟨by rfl, ?_⟩) ?_ ?_
     rotate_left
     ·intro w'
      go_simp
      try with_reducible rfl
     rotate_left
     ·simp only [Act.put, s1_, s2_, s3_, i64_w, i32_w]
      rfl
     refine take_ (i := 11) (N := some 39) (v := ?_) (a' := ?_) (f_ 15 12) rfl rfl (by kernel_rfl) (fun _ _ _ h => h) (Or.inl ⟨by rfl, ?_⟩) hHeld ?_ ?_
     rotate_left
     ·rintro w' ⟨s0, s1, s2, s3⟩
      go_simp
      try with_reducible rfl
     rotate_left
     ·simp only [Act.put, s1_, s2_, s3_, i64_w, i32_w]
      rfl
     refine one_ (i := 12) (N := some 40) (f_ 15 13) rfl rfl (by kernel_rfl) (by decide) (fun K hK => ?_)
     refine goes_ Tryz.func117 (by kernel_rfl) rfl #[.slice Au nu cu, .int .i64 x] (by rfl) rfl rfl (by (try simp only [List.map_toArray, List.map_cons, List.map_nil]); rfl) ?_
     refine (put_calls Au cu nu (refRows (l0.take kk) s) x W2 HRD.out HLE.out HLL.out HNU.out).mono ?_
     rintro e w3 ⟨A5, n5, c5, rfl, hb3, hcase⟩
     have HB3 := Aside0.mk hb3
     have HCASE := Aside0.mk hcase
     clear hb3 hcase
     refine ⟨_, rfl, ?_⟩
     refine hK.out _ _ ⟨pw_cell_below HB3.out hHeld.1, pw_cell_below HB3.out hHeld.2.1, pw_cell_below HB3.out hHeld.2.2.1, pw_cell_below HB3.out hHeld.2.2.2⟩ (fun hHeld => ?_)
     clear hK K
     refine norm_ (a' := ?_) ?_ ?_
     rotate_left
     ·show Act.put _ (some 40) _ = _
      simp only [Act.put, s1_, s2_, s3_, i64_w, i32_w]
      rfl
     refine pure_ (i := 13) (N := some 41) (v := ?_) (a' := ?_) (f_ 15 14) rfl rfl (by kernel_rfl) (fun _ _ _ h => h) (Or.inl ⟨by rfl, ?_⟩) ?_ ?_
     rotate_left
     ·intro w'
      go_simp
      try with_reducible rfl
     rotate_left
     ·simp only [Act.put, s1_, s2_, s3_, i64_w, i32_w]
      rfl
     refine last_ (i := 14) (N := none) (f_ 15 15) rfl rfl (by kernel_rfl) (by decide) (fun K hK => ?_)
     have hs24 : w3.cell? ⟨g, s, none⟩ = some (.slice Au nu cu) := hHeld.2.2.2
     have hfs24 : w3.frozen? ⟨g, s, none⟩ = false := blk_frozen (blk_below HBG.out HB3.out) s
     refine skip_ (w1 := ?_) (by rfl) rfl ?_ ?_
     rotate_left
     ·go_simp
      rfl
     refine hK.out _ _ ?_
     clear hK K
     refine done_ (by kernel_rfl) ?_
     try go_wp2
     go_roundg (l0.length - (kk + 1))
     case measure => omega
     case rel =>
      refine ⟨kk + 1, by omega, by omega, by go_num, ⟨?_⟩, ⟨?_⟩⟩
      ·obtain ⟨f', h'⟩ := HX2.out.swap (rows' := refRows (l0.take (kk + 1))) HB3.out HSZ.out HV.out (fun j hj => by rw [HST.out, if_neg hj]) (v1 := .slice A5 n5 c5) (by rw [HST.out, if_pos rfl]; exact HCASE.out)
       exact ⟨_, _, h'⟩
      ·exact (HB2.out.trans (HB3.out.mono HSZ.out)).setCell (Nat.le_refl _) _
    ·have hx0z : decide (0 ≤ x) = false := decide_eq_false hx0
     have HST : Aside0 (refRows (l0.take (kk + 1)) = refRows (l0.take kk)) := ⟨by
      rw [HSN.out]
      funext j
      unfold rowStep oneOf
      rw [HRDX.out, if_neg (fun h => hx0 (of_decide_eq_true h.1).2)]⟩
     clear hone
     go_wp2
     go_roundg (l0.length - (kk + 1))
     case measure => omega
     case rel => exact ⟨kk + 1, by omega, by omega, by go_num, ⟨by rw [HST.out]; exact HX1.out⟩, HB1⟩
   ·have HB1 := Aside0.mk (below_alloc HB.out (.cells #[.int .i64 s, .slice A1 y.f1.length c1, .int .i64 y.f2.f0, .slice A3 y.f2.f1.length c3, .int .i64 y.f3] 56))
    have HX1 : Aside0 (∃ vals f, URows w.heap.size w.heap.size (refRows (l0.take kk)) 20 (wr.alloc (.cells #[.int .i64 s, .slice A1 y.f1.length c1, .int .i64 y.f2.f0, .slice A3 y.f2.f1.length c3, .int .i64 y.f3] 56)) vals f) := ⟨by obtain ⟨vals, f, h⟩ := HX.out; exact ⟨vals, f, h.below (below_alloc (Below.refl _ _) _)⟩⟩
    have honez : ((y.f1.length : Int) == 1) = false := beq_eq_false_iff_ne.2 (by omega)
    have HST : Aside0 (refRows (l0.take (kk + 1)) = refRows (l0.take kk)) := ⟨by
     rw [HSN.out]
     funext j
     unfold rowStep oneOf
     rw [if_neg (fun h => hone (of_decide_eq_true h.1).1)]⟩
    clear hone
    go_wp2
    go_roundg (l0.length - (kk + 1))
    case measure => omega
    case rel => exact ⟨kk + 1, by omega, by omega, by go_num, ⟨by rw [HST.out]; exact HX1.out⟩, HB1⟩
  ·have hltz : ¬ (kk : Int) < (l0.length : Int) := by omega
   have hkl : kk = l0.length := by omega
   subst hkl
   obtain ⟨vals, f, hU1⟩ := HX.out
   rw [List.take_length] at hU1
   have HV := Aside0.mk hU1.toS
   clear hU1 HX
   go_wp2
   go_ret
   exact ⟨_, rfl, HV.out, HB.out⟩
end Go.Proofs.YtiocgaekoeekgaaGreat.P
end
