/- Of any rules, over any rows of numbers and marks, chart.Spans and chart.Count tell what the document's chapter 7 tells. Part 3: contracts of the functions that the law reaches, and words for them. -/
import Derived.Test.YtjfbfhoipgldgaaGreatMCR2
section
namespace Go.Proofs.YtjfbfhoipgldgaaGreat.P
open Go.RowKit Go.Proofs.YtjfbfhoipgldgaaGreatW.PrintWords Go.Proofs.YtjfbfhoipgldgaaGreatW.PrintLast Go.Proofs.YtjfbfhoipgldgaaGreatW.PrintMore
attribute [local go_sem] ob_ lb_ ub_ tb_ db_ cb_ nb_ kb_   
set_option linter.unusedVariables false
set_option linter.unusedSimpArgs false
attribute [local go_sem] Oper.semAt_some
def okIn (rules : List qa_) (toks : List Tok') (n : Nat) : Bool :=
 decide (rules.length ≤ 1000000) && decide (toks.length ≤ 1000) && toks.all fun x => decide ((0 ≤ x.f0 ∧ x.f0 < x.f1 ∧ x.f1 ≤ (n : Int)) ∧ (-1000000 ≤ x.f2 ∧ x.f2 ≤ 1000000))
theorem qe_ (rules : List qa_) (toks : List Tok') (n : Nat) : okIn rules toks n = true ↔ rules.length ≤ 1000000 ∧ toks.length ≤ 1000 ∧ ∀ x ∈ toks, (0 ≤ x.f0 ∧ x.f0 < x.f1 ∧ x.f1 ≤ (n : Int)) ∧ (-1000000 ≤ x.f2 ∧ x.f2 ≤ 1000000) := by
 unfold okIn
 simp only [Bool.and_eq_true, decide_eq_true_eq, List.all_eq_true, and_assoc]
def decS (M i : Nat) : Sp := ⟨((i / M / M : Nat) : Int), ((i / M % M : Nat) : Int), ((i % M : Nat) : Int)⟩
theorem decS_lt (M i j : Nat) (hM : 0 < M) (h : i < j) : ltS (decS M i) (decS M j) := by
 have h1 : i / M ≤ j / M := Nat.div_le_div_right (Nat.le_of_lt h)
 have h2 : i / M / M ≤ j / M / M := Nat.div_le_div_right h1
 have e1 := Nat.div_add_mod i M
 have e2 := Nat.div_add_mod j M
 have e3 := Nat.div_add_mod (i / M) M
 have e4 := Nat.div_add_mod (j / M) M
 have l1 := Nat.mod_lt (i / M) hM
 have l2 := Nat.mod_lt (j / M) hM
 unfold ltS decS
 simp only
 by_cases c1 : i / M / M < j / M / M
 ·omega
 have c2 : i / M / M = j / M / M := by omega
 rw [c2] at e3
 by_cases c3 : i / M % M < j / M % M
 ·omega
 have c4 : i / M % M = j / M % M := by omega
 have c5 : i / M = j / M := by omega
 rw [c5] at e1
 omega
theorem lu_ (M s p q : Nat) (hp : p < M) (hq : q < M) : decS M ((s * M + p) * M + q) = ⟨(s : Int), (p : Int), (q : Int)⟩ := by
 have hM : 0 < M := by omega
 have e1 : ((s * M + p) * M + q) / M = s * M + p := by
  rw [Nat.add_comm, Nat.add_mul_div_right _ _ hM, Nat.div_eq_of_lt hq, Nat.zero_add]
 have e2 : ((s * M + p) * M + q) % M = q := by
  rw [Nat.add_comm, Nat.add_mul_mod_self_right, Nat.mod_eq_of_lt hq]
 have e3 : (s * M + p) / M = s := by
  rw [Nat.add_comm, Nat.add_mul_div_right _ _ hM, Nat.div_eq_of_lt hp, Nat.zero_add]
 have e4 : (s * M + p) % M = p := by
  rw [Nat.add_comm, Nat.add_mul_mod_self_right, Nat.mod_eq_of_lt hp]
 unfold decS
 rw [e1, e2, e3, e4]
noncomputable def numP (rules : List qa_) (toks : List Tok') (n : Nat) (s : Int) (p q : Nat) : Nat := Chart.Num (tokT toks) n (jb_ rules) s p q
noncomputable def tc_ (rules : List qa_) (toks : List Tok') (n : Nat) : List Sp :=
 if xa_ rules = true then ((List.range (20 * (n + 1) * (n + 1))).map (decS (n + 1))).filter fun x => decide (numP rules toks n x.f0 x.f1.toNat x.f2.toNat ≠ 0) else []
theorem cn_ (rules : List qa_) (toks : List Tok') (n : Nat) : (tc_ rules toks n).Pairwise ltS := by
 unfold tc_
 split
 ·refine List.Pairwise.filter _ ?_
  rw [List.pairwise_map]
  exact List.pairwise_lt_range.imp fun {i j} h => decS_lt _ _ _ (Nat.succ_pos n) h
 exact List.Pairwise.nil
theorem sl_ (rules : List qa_) (toks : List Tok') (n : Nat) : (tc_ rules toks n).length ≤ 20 * (n + 1) * (n + 1) := by
 unfold tc_
 split
 ·refine Nat.le_trans (List.length_filter_le _ _) ?_
  rw [List.length_map, List.length_range]
  exact Nat.le_refl _
 exact Nat.zero_le _
theorem eu_ (T : Int → Nat → Nat → Nat) (n : Nat) (rules : List (Int × List Int)) (s : Int) (p q : Nat) (h : Chart.Num T n rules s p q ≠ 0) : ∃ r ∈ rules, r.1 = s := by
 refine Classical.byContradiction fun hno => h ?_
 have : ∀ k, Chart.NF T n rules k s p q = 0 := by
  intro k
  cases k with
  | zero => rfl
  | succ k =>
   show Chart.sumR T n rules (Chart.NF T n rules k) s p q = 0
   unfold Chart.sumR
   refine Chart.sum_map_zero fun r hr => ?_
   obtain ⟨h1, h2⟩ := List.mem_filter.1 hr
   exact absurd ⟨r, h1, of_decide_eq_true h2⟩ hno
 exact this _
theorem num_sym (rules : List qa_) (hch : xa_ rules = true) (toks : List Tok') (n : Nat) (s : Int) (p q : Nat) (h : numP rules toks n s p q ≠ 0) : 0 ≤ s ∧ s < 20 := by
 obtain ⟨r, hr, he⟩ := eu_ _ _ _ _ _ _ h
 obtain ⟨r0, hr0, rfl⟩ := List.mem_map.1 hr
 have h1 := (dd_ r0 (List.all_eq_true.1 ((bc_ rules).1 hch).2.1 r0 hr0)).1
 have he' : r0.f0 = s := he
 omega
theorem du_ (rules : List qa_) (hch : xa_ rules = true) (toks : List Tok') (n m : Nat) (hT : ∀ x ∈ toks, 0 ≤ x.f0 ∧ x.f0 < x.f1 ∧ x.f1 ≤ (m : Int)) (s : Int) (p q : Nat) (h : numP rules toks n s p q ≠ 0) : p ≤ m ∧ q ≤ m := by
 have h1 := Chart.Num_places (tokT toks) n (jb_ rules) (froms := List.range (m + 1)) (tos := List.range (m + 1)) (fun x p q hx => by
  unfold tokT at hx
  obtain ⟨t, ht⟩ := List.exists_mem_of_ne_nil (toks.filter fun t => decide (pd_ t = (-1 - x, (p : Int), (q : Int)))) (fun e => hx (by rw [e]; rfl))
  rw [List.mem_filter] at ht
  have h2 := of_decide_eq_true ht.2
  unfold pd_ at h2
  injection h2 with _ h2
  injection h2 with h2 h3
  have := hT t ht.1
  exact ⟨List.mem_range.2 (by omega), List.mem_range.2 (by omega)⟩) (ig_ rules hch) s p q h
 have h2 := List.mem_range.1 h1.1
 have h3 := List.mem_range.1 h1.2
 omega
theorem pi_ (rules : List qa_) (toks : List Tok') (n : Nat) (hT : ∀ x ∈ toks, 0 ≤ x.f0 ∧ x.f0 < x.f1 ∧ x.f1 ≤ (n : Int)) (x : Sp) : x ∈ tc_ rules toks n ↔ xa_ rules = true ∧ ∃ (s : Int) (p q : Nat), x = ⟨s, (p : Int), (q : Int)⟩ ∧ numP rules toks n s p q ≠ 0 := by
 unfold tc_
 split
 ·rename_i hch
  rw [List.mem_filter, decide_eq_true_eq]
  constructor
  ·rintro ⟨h1, h2⟩
   obtain ⟨i, _, rfl⟩ := List.mem_map.1 h1
   exact ⟨hch, _, _, _, rfl, h2⟩
  rintro ⟨_, s, p, q, rfl, h⟩
  have h1 := num_sym rules hch toks n s p q h
  have h2 := du_ rules hch toks n n hT s p q h
  refine ⟨List.mem_map.2 ⟨(s.toNat * (n + 1) + p) * (n + 1) + q, List.mem_range.2 ?_, ?_⟩, h⟩
  ·have e1 : s.toNat * (n + 1) + p < 20 * (n + 1) := by
    have : s.toNat * (n + 1) ≤ 19 * (n + 1) := Nat.mul_le_mul_right _ (by omega)
    omega
   have e2 : (s.toNat * (n + 1) + p + 1) * (n + 1) ≤ 20 * (n + 1) * (n + 1) := Nat.mul_le_mul_right _ e1
   rw [Nat.add_mul] at e2
   omega
  rw [lu_ (n + 1) _ _ _ (by omega) (by omega)]
  congr 1
  omega
 rename_i hch
 constructor
 ·intro h
  simp at h
 rintro ⟨h, _⟩
 exact absurd h hch
theorem ii_ {α : Type} [DecidableEq α] : ∀ (l1 l2 : List α), l1.Nodup → (∀ x ∈ l1, x ∈ l2) → l1.length ≤ l2.length
 | [], _, _, _ => Nat.zero_le _
 | x :: l1, l2, hn, h => by
  rw [List.nodup_cons] at hn
  have h1 := ii_ l1 (l2.erase x) hn.2 fun y hy => (List.mem_erase_of_ne (fun e => hn.1 (by rw [← e]; exact hy))).2 (h y (List.mem_cons_of_mem _ hy))
  have h2 := h x List.mem_cons_self
  rw [List.length_erase_of_mem h2] at h1
  have h3 := List.length_pos_of_mem h2
  simp only [List.length_cons]
  omega
def toSp (k : Key3) : Sp := ⟨k.1, k.2.1, k.2.2⟩
def keyS (e : MapEntry) : Sp := match e.key with | .agg #[.int _ a, .int _ b, .int _ c] => ⟨a, b, c⟩ | _ => z42
theorem ij_ {e : MapEntry} {k : Key3} (h : e.key = encK k) : keyS e = toSp k := by
 unfold keyS
 rw [h]
 rfl
def Met (es : Array MapEntry) (seen : Array Nat) (out : List Sp) : Prop := ∃ ents : List MapEntry, (∀ e ∈ ents, e ∈ es.toList) ∧ (ents.map (·.born)).Nodup ∧ seen.toList = ents.map (·.born) ∧ out = ents.map keyS
theorem Met.start (es : Array MapEntry) : Met es #[] [] := ⟨[], by simp, by simp, rfl, rfl⟩
theorem Met.step {es : Array MapEntry} {seen : Array Nat} {out : List Sp} (h : Met es seen out) {e : MapEntry} (he : e ∈ (leftOf es seen).toList) : Met es (seen.push e.born) (out ++ [keyS e]) := by
 obtain ⟨ents, h1, h2, h3, rfl⟩ := h
 obtain ⟨k1, k2⟩ := mem_left he
 refine ⟨ents ++ [e], fun x hx => ?_, ?_, by rw [Array.toList_push, h3, List.map_append]; rfl, by rw [List.map_append]; rfl⟩
 ·rcases List.mem_append.1 hx with hx | hx
  ·exact h1 x hx
  rw [List.mem_singleton.1 hx]; exact k1
 rw [List.map_append, List.nodup_append]
 refine ⟨h2, by simp, fun a ha b hb e1 => ?_⟩
 rw [List.map_singleton, List.mem_singleton] at hb
 subst hb
 subst e1
 rw [← h3] at ha
 have : seen.contains e.born = true := Array.contains_iff_mem.2 (by simpa using ha)
 rw [this] at k2
 cases k2
theorem Met.nodup {es : Array MapEntry} {seen : Array Nat} {out : List Sp} (h : Met es seen out) (hk : es.toList.Pairwise fun x y => x.key ≠ y.key) (hK : ∀ e ∈ es.toList, ∃ k : Key3, e.key = encK k) : out.Nodup := by
 obtain ⟨ents, h1, h2, h3, rfl⟩ := h
 clear h3
 induction ents with
 | nil => simp
 | cons e ents ih =>
  rw [List.map_cons, List.nodup_cons] at h2 ⊢
  refine ⟨fun hm => ?_, ih (fun x hx => h1 x (List.mem_cons_of_mem _ hx)) h2.2⟩
  obtain ⟨x, hx, hxe⟩ := List.mem_map.1 hm
  obtain ⟨k1, e1⟩ := hK e (h1 e List.mem_cons_self)
  obtain ⟨k2, e2⟩ := hK x (h1 x (List.mem_cons_of_mem _ hx))
  rw [ij_ e1, ij_ e2] at hxe
  unfold toSp at hxe
  injection hxe with a b c
  have hkk : k2 = k1 := Prod.ext a (Prod.ext b c)
  have := entry_eq_of_key hk (h1 x (List.mem_cons_of_mem _ hx)) (h1 e List.mem_cons_self) (by rw [e1, e2, hkk])
  subst this
  exact h2.1 (List.mem_map.2 ⟨x, hx, rfl⟩)
theorem Met.mem {es : Array MapEntry} {seen : Array Nat} {out : List Sp} (h : Met es seen out) (x : Sp) (hx : x ∈ out) : ∃ e ∈ es.toList, x = keyS e := by
 obtain ⟨ents, h1, h2, h3, rfl⟩ := h
 obtain ⟨e, he, rfl⟩ := List.mem_map.1 hx
 exact ⟨e, h1 e he, rfl⟩
theorem Met.all {es : Array MapEntry} {seen : Array Nat} {out : List Sp} (h : Met es seen out) (h0 : (leftOf es seen).size = 0) (hb : (es.toList.map (·.born)).Nodup) (e : MapEntry) (he : e ∈ es.toList) : keyS e ∈ out := by
 obtain ⟨ents, h1, h2, h3, rfl⟩ := h
 have h4 : seen.contains e.born = true := by
  refine Classical.byContradiction fun hc => ?_
  have : e ∈ leftOf es seen := by
   unfold leftOf
   rw [Array.mem_filter]
   exact ⟨by simpa using he, by simpa using hc⟩
  rw [Array.eq_empty_of_size_eq_zero h0] at this
  simp at this
 have h5 : e.born ∈ seen.toList := by simpa using h4
 rw [h3] at h5
 obtain ⟨x, hx, hxb⟩ := List.mem_map.1 h5
 have := born_inj hb (h1 x hx) he hxb
 subst this
 exact List.mem_map.2 ⟨x, hx, rfl⟩
theorem keys_of {es : Array MapEntry} {m : List (Key3 × Int)} (he : es.toList.map (fun e => (e.key, e.val)) = (encC m).map fun p => (encK p.1, p.2)) :
  (∀ e ∈ es.toList, ∃ kv ∈ m, e.key = encK kv.1 ∧ e.val = .int .i64 kv.2) ∧ ∀ kv ∈ m, ∃ e ∈ es.toList, e.key = encK kv.1 := by
 unfold encC at he
 rw [List.map_map] at he
 constructor
 ·intro e h
  have h1 : (e.key, e.val) ∈ es.toList.map fun e => (e.key, e.val) := List.mem_map.2 ⟨e, h, rfl⟩
  rw [he] at h1
  obtain ⟨kv, hkv, h2⟩ := List.mem_map.1 h1
  injection h2 with h2 h3
  exact ⟨kv, hkv, h2.symm, h3.symm⟩
 intro kv h
 have h1 : (encK kv.1, Value.int .i64 kv.2) ∈ m.map ((fun p : Key3 × Value => (encK p.1, p.2)) ∘ fun p => (p.1, Value.int .i64 p.2)) := List.mem_map.2 ⟨kv, h, rfl⟩
 rw [← he] at h1
 obtain ⟨e, h2, h3⟩ := List.mem_map.1 h1
 injection h3 with h3 _
 exact ⟨e, h2, h3⟩
structure CellsSay (es : Array MapEntry) (rules : List qa_) (toks : List Tok') (n : Nat) (m : List (Key3 × Int)) : Prop where
 keys : (∀ e ∈ es.toList, ∃ kv ∈ m, e.key = encK kv.1 ∧ e.val = .int .i64 kv.2) ∧ ∀ kv ∈ m, ∃ e ∈ es.toList, e.key = encK kv.1
 val : ∀ (s : Int) (p q : Nat), (mget m (s, (p : Int), (q : Int))).getD 0 = if xa_ rules = true then ((Chart.cap 1 (Chart.Num (tokT toks) n (jb_ rules) s p q) : Nat) : Int) else 0
 none : ∀ kv ∈ m, ∃ (s : Int) (p q : Nat), kv.1 = (s, (p : Int), (q : Int)) ∧ xa_ rules = true ∧ Chart.Num (tokT toks) n (jb_ rules) s p q ≠ 0
 toks : ∀ x ∈ toks, 0 ≤ x.f0 ∧ x.f0 < x.f1 ∧ x.f1 ≤ (n : Int)
 apart : (es.toList.map (·.born)).Nodup ∧ es.toList.Pairwise fun x y => x.key ≠ y.key
theorem CellsSay.sub {es : Array MapEntry} {rules : List qa_} {toks : List Tok'} {n : Nat} {m : List (Key3 × Int)} (h : CellsSay es rules toks n m) {seen : Array Nat} {out : List Sp} (hM : Met es seen out) (x : Sp) (hx : x ∈ out) : x ∈ tc_ rules toks n := by
 obtain ⟨e, he, rfl⟩ := hM.mem x hx
 obtain ⟨kv, hkv, hk, _⟩ := h.keys.1 e he
 obtain ⟨s, p, q, h1, h2, h3⟩ := h.none kv hkv
 rw [ij_ hk, h1]
 exact (pi_ rules toks n h.toks _).2 ⟨h2, s, p, q, rfl, h3⟩
theorem CellsSay.nodup {es : Array MapEntry} {rules : List qa_} {toks : List Tok'} {n : Nat} {m : List (Key3 × Int)} (h : CellsSay es rules toks n m) {seen : Array Nat} {out : List Sp} (hM : Met es seen out) : out.Nodup :=
 hM.nodup h.apart.2 fun e he => by
  obtain ⟨kv, _, hk, _⟩ := h.keys.1 e he
  exact ⟨kv.1, hk⟩
theorem CellsSay.len {es : Array MapEntry} {rules : List qa_} {toks : List Tok'} {n : Nat} {m : List (Key3 × Int)} (h : CellsSay es rules toks n m) (hn : n ≤ 1000) {seen : Array Nat} {out : List Sp} (hM : Met es seen out) : out.length ≤ 20040020 := by
 haveI : DecidableEq Sp := fun _ _ => Classical.propDecidable _
 have h1 := ii_ out (tc_ rules toks n) (h.nodup hM) (h.sub hM)
 have h2 := sl_ rules toks n
 have h3 : 20 * (n + 1) * (n + 1) ≤ 20 * 1001 * 1001 := Nat.mul_le_mul (by omega) (by omega)
 omega
theorem CellsSay.done {es : Array MapEntry} {rules : List qa_} {toks : List Tok'} {n : Nat} {m : List (Key3 × Int)} (h : CellsSay es rules toks n m) {seen : Array Nat} {out : List Sp} (hM : Met es seen out) (h0 : (leftOf es seen).size = 0) : me_ out = tc_ rules toks n := by
 refine ei_ _ _ (vo_ out (h.nodup hM)) (cn_ rules toks n) fun x => ?_
 rw [(tl_ out).mem_iff]
 refine ⟨h.sub hM x, fun hx => ?_⟩
 obtain ⟨hch, s, p, q, rfl, hnum⟩ := (pi_ rules toks n h.toks x).1 hx
 have hv := h.val s p q
 rw [if_pos hch] at hv
 cases hg : mget m (s, (p : Int), (q : Int)) with
 | none =>
  rw [hg] at hv
  have h5 : Chart.cap 1 (Chart.Num (tokT toks) n (jb_ rules) s p q) = 0 := by
   have h6 : (0 : Int) = ((Chart.cap 1 (Chart.Num (tokT toks) n (jb_ rules) s p q) : Nat) : Int) := hv
   omega
  unfold Chart.cap at h5
  have h7 : Chart.Num (tokT toks) n (jb_ rules) s p q ≠ 0 := hnum
  omega
 | some v =>
  obtain ⟨e, he, hek⟩ := h.keys.2 _ (yl_ hg)
  have := hM.all h0 h.apart.1 e he
  rw [ij_ hek] at this
  exact this
set_option maxHeartbeats 4000000 in
set_option maxRecDepth 100000 in
theorem hs_ (A0 : Option Addr) (c0 : Nat) (rules : List qa_) (A1 : Option Addr) (c1 : Nat) (toks : List Tok') (n : Nat) (w : World) (hr0 : Kd.C k48 w A0 rules.length rules) (hc0 : rules.length ≤ c0)
  (hr1 : Kd.C k31 w A1 toks.length toks) (hc1 : toks.length ≤ c1) (hn : n ≤ 1000) (hin : okIn rules toks n = true) :
  Calls Tryz.prog 10 #[.slice A0 rules.length c0, .slice A1 toks.length c1, .int .i64 (n : Int)] w fun e w' => ∃ v0_ : Value, e = .returned (v0_) ∧ Kd.R k42 42 w' w.heap.size (fun _ => True) v0_ (tc_ rules toks n) ∧ Below w.heap.size w w' := by
 obtain ⟨hrl, htl, htk⟩ := (qe_ rules toks n).1 hin
 have hfill := ko_ A0 c0 rules A1 c1 toks n n 1 w hr0 hc0 hr1 hc1 hrl htl (Nat.le_refl _) (by decide) (by omega) (by omega) (fun x hx => ⟨⟨(htk x hx).1.1, (htk x hx).1.2.1, (htk x hx).1.2.2, (htk x hx).1.2.2⟩, (htk x hx).2⟩)
 have HF := Aside0.mk hfill
 have HTK := Aside0.mk htk
 clear hfill htk hr0 hr1 hin
 go_enter Tryz.func10, Tryz.ntmps10
 go_wp2_with fail
 refine HF.out.mono ?_
 rintro e w1 ⟨tb, b3, m, rfl, hc3, hM, hB, hval, hkeys⟩
 clear HF
 obtain ⟨es, clock, hb, he, hkk, hst⟩ := id hM
 have hst2 := (Go.MapKept.stamped_iff es clock).1 hst
 have hrun := run_range_map (P := Tryz.prog) w1 54 42 3 b3 es clock Tryz.underlying54 hb
 have hkeq := keys_of he
 have HSAY : Aside0 (CellsSay es rules toks n m) := ⟨⟨hkeq, hval, hkeys, fun x hx => (HTK.out x hx).1, hst2.2⟩⟩
 have HST := Aside0.mk hst2
 have HLT := Aside0.mk hM.lt
 have HB0 := Aside0.mk (ba_ hB (.mapIter (some b3) clock #[] clock))
 have HMB := Aside0.mk (va_ (o' := .mapIter (some b3) clock #[] clock) hb)
 have HIT : Aside0 (∃ seen c0, (w1.alloc (.mapIter (some b3) clock #[] clock)).heap[w1.heap.size]? = some (.mapIter (some b3) clock seen c0) ∧ clock ≤ c0 ∧ Met es seen [] ∧ (leftOf es seen).size ≤ es.size) := ⟨⟨#[], clock, pb_ w1 _, Nat.le_refl _, Met.start es, Array.size_filter_le⟩⟩
 have HOUT : Aside0 (Kd.R k42 42 (w1.alloc (.mapIter (some b3) clock #[] clock)) w.heap.size (fun k => w1.heap.size < k) (.slice none 0 0) ([] : List Sp)) := ⟨Kd.R_nil _ _ _ _ _⟩
 have hwr : w.heap.size ≤ w1.heap.size := hB.size
 clear hM hB hb he hkk hst hst2 hkeq hval hkeys
 go_wp2
 have hrlt : w1.heap.size < (w1.alloc (.mapIter (some b3) clock #[] clock)).heap.size := by simp
 have hb3r : b3 < w1.heap.size := HLT.out
 generalize w1.alloc (.mapIter (some b3) clock #[] clock) = w2 at *
 generalize w1.heap.size = r at *
 clear hc3 hrun
 go_loopg [7] es.size (fun gg s7 wr => ∃ (out : List Sp) (seen : Array Nat) (c0 : Nat), (leftOf es seen).size ≤ gg ∧ Aside0 (wr.heap[b3]? = some (.map es clock)) ∧ Aside0 (wr.heap[r]? = some (.mapIter (some b3) clock seen c0) ∧ clock ≤ c0) ∧ Aside0 (Met es seen out) ∧ Aside0 (Kd.R k42 42 wr w.heap.size (fun k => r < k) s7 out) ∧ Aside0 (Below w.heap.size w wr))
 case atStart =>
  obtain ⟨seen, c0, h1, h2, h3, h4⟩ := HIT.out
  exact ⟨[], seen, c0, h4, HMB, ⟨⟨h1, h2⟩⟩, ⟨h3⟩, HOUT, HB0⟩
 clear HIT HMB HOUT HB0
 obtain ⟨out, seen, c0, hgg, HMB, HIT, HMET, HOUT, HB⟩ := hrel
 obtain ⟨Ao, co, hAo⟩ := Kd.R_slice HOUT.out
 subst hAo
 rcases run_next_at (P := Tryz.prog) wr 0 r b3 clock c0 seen es clock HIT.out.1 HMB.out HST.out.1 HIT.out.2 with ⟨h0, hnx⟩ | ⟨e, he, w3, hw3, hnx⟩
 ·go_wp2_with fail
  have hlen := HSAY.out.len hn HMET.out
  refine (js_ wr w.heap.size _ Ao out.length co out HOUT.out (by omega)).mono ?_
  rintro e w4 ⟨rfl, hR4, hg4⟩
  have hsl : (me_ out).length = out.length := List.length_mergeSort _
  have hB4 := HB.out.grown hg4 HB.out.size (fun k hk => by
   obtain ⟨inner, ho, _⟩ := HOUT.out.2
   exact pe_ ho k hk)
  have hrr := Kd.R_reads' hR4
  have hcl := sr_ Ao co (me_ out) w4 hrr.2.2 (by rw [hsl]; exact hrr.2.1) (by omega)
  rw [hsl, HSAY.out.done HMET.out h0] at hcl
  have HCL := Aside0.mk hcl
  have HB4 := Aside0.mk hB4
  clear hR4 hg4 hrr hcl hB4 hnx
  go_wp2_with fail
  refine HCL.out.mono ?_
  rintro e w5 ⟨v5, rfl, hR5, hB5⟩
  have HR5 := Aside0.mk (Kd.R_lower hR5 HB4.out.size)
  have HB5 := Aside0.mk (ma_ HB4.out hB5)
  clear hR5 hB5 HCL
  go_wp2
  go_ret
  exact ⟨_, rfl, HR5.out, HB5.out⟩
 obtain ⟨kv, hkv, hek, hev⟩ := HSAY.out.keys.1 e (mem_left he).1
 have hks := ij_ hek
 obtain ⟨⟨a, b, c⟩, v⟩ := kv
 replace hek : e.key = .agg #[.int .i64 a, .int .i64 b, .int .i64 c] := hek
 have hh3 : w3.heap = wr.heap ∧ w3.os = wr.os ∧ w3.tape = wr.tape ∧ w3.output = wr.output := by rcases hw3 with rfl | rfl <;> exact ⟨rfl, rfl, rfl, rfl⟩
 have hrl : r < wr.heap.size := (Array.getElem?_eq_some_iff.1 HIT.out.1).1
 have hg3 : wr.grownBy (Go.ChangeMaps.setBlock w3 r (.mapIter (some b3) clock (seen.push e.born) clock)) (some r) :=
  ⟨hh3.2.1, hh3.2.2.1, hh3.2.2.2, by simp [Go.ChangeMaps.setBlock, hh3.1], fun k hk hne => by
   have : r ≠ k := fun e => hne (by rw [e])
   simp [Go.ChangeMaps.setBlock, Array.getElem?_setIfInBounds, this, hh3.1]⟩
 have hit4 : (Go.ChangeMaps.setBlock w3 r (.mapIter (some b3) clock (seen.push e.born) clock)).heap[r]? = some (.mapIter (some b3) clock (seen.push e.born) clock) := by
  simp [Go.ChangeMaps.setBlock, hh3.1, hrl]
 have hne3 : r ≠ b3 := fun e => by
  have h1 := HIT.out.1
  rw [e, HMB.out] at h1
  cases h1
 generalize Go.ChangeMaps.setBlock w3 r (.mapIter (some b3) clock (seen.push e.born) clock) = w4 at *
 have hmb4 : w4.heap[b3]? = some (.map es clock) := (hg3.block b3 (Array.getElem?_eq_some_iff.1 HMB.out).1 (fun e => by injection e with e; exact hne3 e.symm)).trans HMB.out
 have hen := run_entry_at (P := Tryz.prog) w4 r b3 clock seen es clock e hit4 hmb4 (mem_left he).1 HST.out.2.1
 rw [hek, hev] at hnx hen
 have HMB4 := Aside0.mk hmb4
 have HIT4 := Aside0.mk hit4
 have HB4 := Aside0.mk (HB.out.grown hg3 HB.out.size (fun k hk => by injection hk with hk; omega))
 have HOUT4 : Aside0 (Kd.R k42 42 w4 w.heap.size (fun k => r < k) (.slice Ao out.length co) out) := ⟨Kd.R_mono (Kd.R_move (Kd.R_bound HOUT.out) (w1 := w4) (fun k hk => hg3.block k hk.2.2.1 (fun e => by injection e with e; have := hk.1; omega))) (fun k hk => hk.1)⟩
 have hlen := HSAY.out.len hn HMET.out
 have HMET4 := Aside0.mk (HMET.out.step he)
 have hlt4 := left_shrinks es seen e he
 have hsz4 : wr.heap.size ≤ w4.heap.size := hg3.size
 clear hh3 hw3 hg3 hit4 hmb4 HB HOUT HMET HIT HMB
 rw [hks] at HMET4
 have hrl4 : r < w4.heap.size := by omega
 have HO5 : Aside0 (Kd.R k42 42 ((w4.alloc (.cells #[.int .i64 a, .int .i64 b, .int .i64 c] 42)).alloc (.cells #[.int .i64 a, .int .i64 b, .int .i64 c] 42)) w.heap.size (fun k => r < k) (.slice Ao out.length co) out) := ⟨Kd.R_alloc (Kd.R_alloc HOUT4.out _) _⟩
 have HB5 := Aside0.mk (ba_ (ba_ HB4.out (.cells #[.int .i64 a, .int .i64 b, .int .i64 c] 42)) (.cells #[.int .i64 a, .int .i64 b, .int .i64 c] 42))
 have HMB5 := Aside0.mk (va_ (o' := .cells #[.int .i64 a, .int .i64 b, .int .i64 c] 42) (va_ (o' := .cells #[.int .i64 a, .int .i64 b, .int .i64 c] 42) HMB4.out))
 have HIT5 := Aside0.mk (va_ (o' := .cells #[.int .i64 a, .int .i64 b, .int .i64 c] 42) (va_ (o' := .cells #[.int .i64 a, .int .i64 b, .int .i64 c] 42) HIT4.out))
 have HC5 : Aside0 (Kd.C k42 ((w4.alloc (.cells #[.int .i64 a, .int .i64 b, .int .i64 c] 42)).alloc (.cells #[.int .i64 a, .int .i64 b, .int .i64 c] 42)) (some ⟨w4.heap.size + 1, 0, none⟩) 1 [(⟨a, b, c⟩ : Sp)]) := ⟨nc_ (d := k42) (xs := [(⟨a, b, c⟩ : Sp)]) (cs := [.int .i64 a, .int .i64 b, .int .i64 c]) (kc_ (w := w4.alloc (.cells #[.int .i64 a, .int .i64 b, .int .i64 c] 42)) (cs := #[.int .i64 a, .int .i64 b, .int .i64 c]) (t := 42) (n := w4.heap.size + 1) (by simp)) (by simp) (of_ (k42_mk _ (⟨a, b, c⟩ : Sp)) rfl)⟩
 go_wp2_with (at_builtin; go_loud (refine Kd.R_append_rows k42 (Rr := k42.K ((w4.alloc (.cells #[.int .i64 a, .int .i64 b, .int .i64 c] 42)).alloc (.cells #[.int .i64 a, .int .i64 b, .int .i64 c] 42))) (w0 := w) w.heap.size rfl (.tmp 21) (.tmp 23) 33 42 (.agg #[.int .i64 0, .int .i64 0, .int .i64 0]) 24 rfl Tryz.underlying33 info42 rfl (by show 0 < 3; decide) (by decide) (.slice Ao out.length co) out [(⟨a, b, c⟩ : Sp)] (some ⟨w4.heap.size + 1, 0, none⟩) 1 1 (fun k => r < k) (fun _ => False) rfl rfl HO5.out HC5.out (fun x cs h => by have h9 := gm_ h; subst h9; exact kp_ _ _ _ x) (fun _ hk => hk.elim) (fun k hk => by simp at hk; omega) HB5.out HB5.out.size (by omega) ?_); intro v1 w5 ho hb hg hat)
 have HO6 := Aside0.mk ho
 have HB6 := Aside0.mk hb
 have hown : ∀ k, (Value.slice Ao out.length co).ownBlock = some k → r < k := HOUT4.out.1
 have HMB6 := Aside0.mk ((hg.block b3 (Array.getElem?_eq_some_iff.1 HMB5.out).1 (fun e => by have := hown _ e.symm; omega)).trans HMB5.out)
 have HIT6 := Aside0.mk ((hg.block r (Array.getElem?_eq_some_iff.1 HIT5.out).1 (fun e => by have := hown _ e.symm; omega)).trans HIT5.out)
 clear ho hb hg hat hown HO5 HB5 HMB5 HIT5 HC5 HB4 HMB4 HIT4 HOUT4
 go_wp2
 go_roundg (leftOf es (seen.push e.born)).size
 case measure => omega
 case rel => exact ⟨out ++ [(⟨a, b, c⟩ : Sp)], seen.push e.born, clock, Nat.le_refl _, HMB6, ⟨⟨HIT6.out, Nat.le_refl _⟩⟩, HMET4, HO6, HB6⟩
noncomputable def chart_Spans.f (rules : List qa_) (toks : List Tok') (size : Int) : Option (List Sp) := if (0 ≤ size ∧ size ≤ 1000) ∧ okIn rules toks size.toNat = true then some (tc_ rules toks size.toNat) else none
theorem chart_Spans.calls (A0 : Option Addr) (c0 : Nat) (rules : List qa_) (A1 : Option Addr) (c1 : Nat) (toks : List Tok') (size : Int) (r : List Sp) (w : World) (hr0 : Kd.C k48 w A0 rules.length rules) (hc0 : rules.length ≤ c0)
  (hr1 : Kd.C k31 w A1 toks.length toks) (hc1 : toks.length ≤ c1) (h : chart_Spans.f rules toks size = some r) :
  Calls Tryz.prog 10 #[.slice A0 rules.length c0, .slice A1 toks.length c1, .int .i64 size] w fun e w' => ∃ v0_ : Value, e = .returned (v0_) ∧ Kd.R k42 42 w' w.heap.size (fun _ => True) v0_ r ∧ Below w.heap.size w w' := by
 unfold chart_Spans.f at h
 split at h
 case isFalse => cases h
 case isTrue hu =>
 obtain rfl := Option.some.inj h
 have h1 := hs_ A0 c0 rules A1 c1 toks size.toNat w hr0 hc0 hr1 hc1 (by omega) hu.2
 rwa [show ((size.toNat : Nat) : Int) = size by omega] at h1
def ue_ (l : List Tok') : Int := l.foldl (fun m x => max m x.f1) 0
theorem ls_ (l : List Tok') (k : Nat) (h : k < l.length) : ue_ (l.take (k + 1)) = max (ue_ (l.take k)) l[k].f1 := by
 unfold ue_
 rw [List.take_succ_eq_append_getElem h, List.foldl_append]
 rfl
theorem nf_ (n : Int) (hn : 0 ≤ n) : ∀ (l : List Tok') (m : Int), 0 ≤ m → m ≤ n → (∀ x ∈ l, x.f1 ≤ n) → (0 ≤ l.foldl (fun m x => max m x.f1) m ∧ m ≤ l.foldl (fun m x => max m x.f1) m ∧ l.foldl (fun m x => max m x.f1) m ≤ n) ∧ ∀ x ∈ l, x.f1 ≤ l.foldl (fun m x => max m x.f1) m
 | [], m, h0, h1, _ => ⟨⟨h0, Int.le_refl _, h1⟩, by simp⟩
 | y :: l, m, h0, h1, h => by
  have hy := h y List.mem_cons_self
  obtain ⟨⟨a, b, c⟩, d⟩ := nf_ n hn l (max m y.f1) (by omega) (by omega) (fun x hx => h x (List.mem_cons_of_mem _ hx))
  rw [List.foldl_cons]
  refine ⟨⟨a, by omega, c⟩, fun x hx => ?_⟩
  rcases List.mem_cons.1 hx with rfl | hx
  ·omega
  exact d x hx
noncomputable def ee_ (rules : List qa_) (toks : List Tok') (sym f t most : Int) : Int :=
 if most ≤ 0 ∨ f < 0 ∨ t ≤ f then 0 else if ue_ toks < t then 0 else if xa_ rules = true then ((Chart.cap most.toNat (numP rules toks (ue_ toks).toNat sym f.toNat t.toNat) : Nat) : Int) else 0
set_option maxHeartbeats 4000000 in
set_option maxRecDepth 100000 in
theorem jt_ (A0 : Option Addr) (c0 : Nat) (rules : List qa_) (A1 : Option Addr) (c1 : Nat) (toks : List Tok') (sym f t most : Int) (w : World) (hr0 : Kd.C k48 w A0 rules.length rules) (hc0 : rules.length ≤ c0)
  (hr1 : Kd.C k31 w A1 toks.length toks) (hc1 : toks.length ≤ c1) (hsym : ie_ sym) (hf : ie_ f) (ht : ie_ t) (hmost : ie_ most) (hm2 : most ≤ 1000000000) (hin : okIn rules toks 1000000 = true) :
  Calls Tryz.prog 12 #[.slice A0 rules.length c0, .slice A1 toks.length c1, .int .i64 sym, .int .i64 f, .int .i64 t, .int .i64 most] w fun e w' => e = .returned (.int .i64 (ee_ rules toks sym f t most)) ∧ Below w.heap.size w w' := by
 obtain ⟨hrl, htl, htk⟩ := (qe_ rules toks 1000000).1 hin
 have hsp := nf_ 1000000 (by decide) toks 0 (by decide) (by decide) (fun x hx => by have := htk x hx; omega)
 have HSP : Aside0 ((0 ≤ ue_ toks ∧ ue_ toks ≤ 1000000) ∧ ∀ x ∈ toks, x.f1 ≤ ue_ toks) := ⟨⟨⟨hsp.1.1, hsp.1.2.2⟩, hsp.2⟩⟩
 have HTK := Aside0.mk htk
 have HR0 := Aside0.mk hr0
 have HR1 := Aside0.mk hr1
 have HB0 := Aside0.mk (Below.refl w.heap.size w)
 clear hr0 hr1 hsp htk hin
 by_cases d1 : most ≤ 0
 ·have e1 : decide (most ≤ 0) = true := decide_eq_true d1
  have hz : ee_ rules toks sym f t most = 0 := by unfold ee_; rw [if_pos (.inl d1)]
  rw [hz]
  clear hz
  go_enter Tryz.func12, Tryz.ntmps12
  go_wp2
  go_ret
  exact ⟨rfl, HB0.out⟩
 by_cases d2 : f < 0
 ·have e1 : decide (most ≤ 0) = false := decide_eq_false d1
  have e2 : decide (f < 0) = true := decide_eq_true d2
  have hz : ee_ rules toks sym f t most = 0 := by unfold ee_; rw [if_pos (.inr (.inl d2))]
  rw [hz]
  clear hz
  go_enter Tryz.func12, Tryz.ntmps12
  go_wp2
  go_ret
  exact ⟨rfl, HB0.out⟩
 by_cases d3 : t ≤ f
 ·have e1 : decide (most ≤ 0) = false := decide_eq_false d1
  have e2 : decide (f < 0) = false := decide_eq_false d2
  have e3 : decide (t ≤ f) = true := decide_eq_true d3
  have hz : ee_ rules toks sym f t most = 0 := by unfold ee_; rw [if_pos (.inr (.inr d3))]
  rw [hz]
  clear hz
  go_enter Tryz.func12, Tryz.ntmps12
  go_wp2
  go_ret
  exact ⟨rfl, HB0.out⟩
 have e1 : decide (most ≤ 0) = false := decide_eq_false d1
 have e2 : decide (f < 0) = false := decide_eq_false d2
 have e3 : decide (t ≤ f) = false := decide_eq_false d3
 obtain ⟨p, rfl⟩ : ∃ p : Nat, f = (p : Int) := ⟨f.toNat, by omega⟩
 obtain ⟨q, rfl⟩ : ∃ q : Nat, t = (q : Int) := ⟨t.toNat, by omega⟩
 obtain ⟨k, rfl⟩ : ∃ k : Nat, most = (k : Int) := ⟨most.toNat, by omega⟩
 go_enter Tryz.func12, Tryz.ntmps12
 go_wp2
 go_loopg [13, 29] toks.length (fun gg s13 s29 wr => ∃ kk : Nat, kk ≤ toks.length ∧ toks.length - kk ≤ gg ∧ s29 = .int .i64 kk ∧ s13 = .int .i64 (ue_ (toks.take kk)) ∧ Aside0 (Below w.heap.size w wr))
 case atStart => exact ⟨0, Nat.zero_le _, by omega, rfl, rfl, HB0⟩
 clear HB0
 obtain ⟨kk, hkk, hgg, rfl, rfl, HB⟩ := hrel
 by_cases hlt : kk < toks.length
 ·have hltz : (kk : Int) < (toks.length : Int) := by omega
  obtain ⟨ad, hA, h0, h1, h2, h3, h4⟩ := bh_ (Kd.C_below HR1.out HB.out) (kk : Int) (by omega) hltz
  subst hA
  have hx : bb_ toks (kk : Int) = toks[kk] := by
   show toks.getD (kk : Int).toNat _ = _
   rw [Int.toNat_natCast, List.getD_eq_getElem?_getD, List.getElem?_eq_getElem hlt]
   rfl
  have hsn := ls_ toks kk hlt
  rw [← hx] at hsn
  generalize bb_ toks (kk : Int) = y at *
  rw [Int.toNat_natCast] at h0 h1 h2 h3 h4
  generalize ue_ (toks.take kk) = sz at *
  have HSN := Aside0.mk hsn
  have HB1 := Aside0.mk (ba_ HB.out (.cells #[.int .i64 y.f0, .int .i64 y.f1, .int .i64 y.f2, .int .i64 y.f3, .int .i64 y.f4] 31))
  clear hsn hx HB
  by_cases hmx : sz < y.f1
  ·go_wp2
   go_roundg (toks.length - (kk + 1))
   case measure => omega
   case rel => exact ⟨kk + 1, by omega, by omega, by go_num, by rw [HSN.out, Int.max_eq_right (by omega)], HB1⟩
  go_wp2
  go_roundg (toks.length - (kk + 1))
  case measure => omega
  case rel => exact ⟨kk + 1, by omega, by omega, by go_num, by rw [HSN.out, Int.max_eq_left (by omega)], HB1⟩
 have he : kk = toks.length := by omega
 have hltz : decide ((kk : Int) < (toks.length : Int)) = false := by simp; omega
 clear hgg hkk
 subst he
 rw [List.take_of_length_le (Nat.le_refl _)]
 obtain ⟨n, hn⟩ : ∃ n : Nat, ue_ toks = (n : Int) := ⟨(ue_ toks).toNat, by have := HSP.out.1; omega⟩
 have hcp : ee_ rules toks sym (p : Int) (q : Int) (k : Int) = if (n : Int) < (q : Int) then 0 else if xa_ rules = true then ((Chart.cap k (Chart.Num (tokT toks) n (jb_ rules) sym p q) : Nat) : Int) else 0 := by
  unfold ee_ numP
  rw [if_neg (by omega), hn]
  simp only [Int.toNat_natCast]
 rw [hn]
 have HCP := Aside0.mk hcp
 have hn2 : n ≤ 1000000 := by have := HSP.out.1; omega
 have HTK2 : Aside0 (∀ x ∈ toks, (0 ≤ x.f0 ∧ x.f0 < x.f1 ∧ x.f1 ≤ (n : Int) ∧ x.f1 ≤ (n : Int)) ∧ (-1000000 ≤ x.f2 ∧ x.f2 ≤ 1000000)) := ⟨fun x hx => by
  have h1 := HTK.out x hx
  have h2 := HSP.out.2 x hx
  omega⟩
 clear hcp hn
 by_cases d4 : (n : Int) < (q : Int)
 ·have e4 : decide ((n : Int) < (q : Int)) = true := decide_eq_true d4
  have HZ0 : Aside0 (ee_ rules toks sym (p : Int) (q : Int) (k : Int) = 0) := ⟨by rw [HCP.out, if_pos d4]⟩
  go_wp2
  go_ret
  exact ⟨by rw [HZ0.out]; rfl, HB.out⟩
 have e4 : decide ((n : Int) < (q : Int)) = false := decide_eq_false d4
 go_wp2_with fail
 refine (ko_ A0 c0 rules A1 c1 toks n n k wr (Kd.C_below HR0.out HB.out) hc0 (Kd.C_below HR1.out HB.out) hc1 hrl htl (by omega) (by omega) hn2 hn2 HTK2.out).mono ?_
 rintro e w5 ⟨tb, b3, m, rfl, hc3, hM, hB, hval, hkeys⟩
 have HB5 := Aside0.mk (ma_ HB.out hB)
 have hkey := pf_ (a := sym) (b := (p : Int)) (c := (q : Int)) hsym ⟨by omega, by omega⟩ ⟨by omega, by omega⟩
 have hl := hM.lookup fe_ wc_ Tryz.underlying54 (rd_ w5) (sym, (p : Int), (q : Int)) hkey false
 simp only [se_, Bool.false_eq_true, if_false] at hl
 rw [hval sym p q] at hl
 replace hl : (Instr.lookup 54 (.map (some b3)) (.agg #[.int .i64 sym, .int .i64 (p : Int), .int .i64 (q : Int)]) false).run Tryz.prog w5 = .ok (.int .i64 (if xa_ rules = true then ((Chart.cap k (Chart.Num (tokT toks) n (jb_ rules) sym p q) : Nat) : Int) else 0)) w5 := hl
 obtain ⟨z, hz⟩ : ∃ z : Int, z = (if xa_ rules = true then ((Chart.cap k (Chart.Num (tokT toks) n (jb_ rules) sym p q) : Nat) : Int) else 0) := ⟨_, rfl⟩
 rw [← hz] at hl
 have HZ : Aside0 (ee_ rules toks sym (p : Int) (q : Int) (k : Int) = z) := ⟨by rw [HCP.out, if_neg (by omega), hz]⟩
 clear hz hval hkeys hM hB hkey
 go_wp2
 go_ret
 exact ⟨by rw [HZ.out]; rfl, HB5.out⟩
noncomputable def chart_Count.f (rules : List qa_) (toks : List Tok') (sym f t most : Int) : Option Int := if ((ie_ sym ∧ ie_ f ∧ ie_ t ∧ ie_ most) ∧ most ≤ 1000000000) ∧ okIn rules toks 1000000 = true then some (ee_ rules toks sym f t most) else none
theorem chart_Count.calls (A0 : Option Addr) (c0 : Nat) (rules : List qa_) (A1 : Option Addr) (c1 : Nat) (toks : List Tok') (sym f t most : Int) (r : Int) (w : World) (hr0 : Kd.C k48 w A0 rules.length rules) (hc0 : rules.length ≤ c0)
  (hr1 : Kd.C k31 w A1 toks.length toks) (hc1 : toks.length ≤ c1) (h : chart_Count.f rules toks sym f t most = some r) :
  Calls Tryz.prog 12 #[.slice A0 rules.length c0, .slice A1 toks.length c1, .int .i64 sym, .int .i64 f, .int .i64 t, .int .i64 most] w fun e w' => e = .returned (.int .i64 r) ∧ Below w.heap.size w w' := by
 unfold chart_Count.f at h
 split at h
 case isFalse => cases h
 case isTrue hu =>
 obtain rfl := Option.some.inj h
 exact jt_ A0 c0 rules A1 c1 toks sym f t most w hr0 hc0 hr1 hc1 hu.1.1.1 hu.1.1.2.1 hu.1.1.2.2.1 hu.1.1.2.2.2 hu.1.2 hu.2
end Go.Proofs.YtjfbfhoipgldgaaGreat.P
end
section
namespace Go.Proofs.YtjfbfhoipgldgaaGreat.P
open Go.RowKit Go.Proofs.YtjfbfhoipgldgaaGreatW.PrintWords Go.Proofs.YtjfbfhoipgldgaaGreatW.PrintLast Go.Proofs.YtjfbfhoipgldgaaGreatW.PrintMore
attribute [local go_sem] ob_ lb_ ub_ tb_ db_ cb_ nb_ kb_   
set_option linter.unusedVariables false
set_option linter.unusedSimpArgs false
noncomputable def l7_known.f  : Option (Bool) := (some (([(⟨0, (([(-1)] : List Int)), (⟨8, (([0] : List Int))⟩ : S46), 0⟩ : S48), (⟨0, (([0, 0] : List Int)), (⟨0, (([0] : List Int))⟩ : S46), 0⟩ : S48)] : List (S48)) : List (S48))).bind fun y129 => ((some (([(⟨0, 1, 0, 0, 1⟩ : S31), (⟨1, 2, 0, 0, 1⟩ : S31), (⟨2, 3, 0, 0, 1⟩ : S31)] : List (S31)) : List (S31))).bind fun y132 => ((chart_Spans.f y129 y132 3).bind fun t135 => ((chart_Spans.f ([] : List (S48)) ([] : List (S31)) 0).bind fun t138 => (if (t138.length : Int) = 0 then (if (t135.length : Int) = 6 then ((chart_Count.f y129 y132 0 0 3 100).bind fun t141 => (if t141 = 2 then ((chart_Count.f y129 y132 0 1 1 100).bind fun t142 => (some (t142 == 0))) else (some false))) else (some false)) else (some false)))))
set_option maxHeartbeats 8000000 in
set_option maxRecDepth 100000 in
theorem l7_known.calls  (r : Bool) (w : World) (h : l7_known.f  = some r) :
  Calls Tryz.prog 5 #[] w fun e w' => e = .returned (.bool r) ∧ Below w.heap.size w w' := by
 have hu46 := Tryz.underlying46
 have hu48 := Tryz.underlying48
 have hu31 := Tryz.underlying31
 have HB := Aside0.mk (Below.refl w.heap.size w)
 have H : ((some (([(⟨0, (([(-1)] : List Int)), (⟨8, (([0] : List Int))⟩ : S46), 0⟩ : S48), (⟨0, (([0, 0] : List Int)), (⟨0, (([0] : List Int))⟩ : S46), 0⟩ : S48)] : List (S48)) : List (S48))).bind fun y129 => ((some (([(⟨0, 1, 0, 0, 1⟩ : S31), (⟨1, 2, 0, 0, 1⟩ : S31), (⟨2, 3, 0, 0, 1⟩ : S31)] : List (S31)) : List (S31))).bind fun y132 => ((chart_Spans.f y129 y132 3).bind fun t135 => ((chart_Spans.f ([] : List (S48)) ([] : List (S31)) 0).bind fun t138 => (if (t138.length : Int) = 0 then (if (t135.length : Int) = 6 then ((chart_Count.f y129 y132 0 0 3 100).bind fun t141 => (if t141 = 2 then ((chart_Count.f y129 y132 0 1 1 100).bind fun t142 => (some (t142 == 0))) else (some false))) else (some false)) else (some false)))))) = some r := h
 clear h
 obtain ⟨y117, hy117⟩ : ∃ y_ : List Int, y_ = (([(-1)] : List Int)) := ⟨_, rfl⟩
 replace H : ((some (([(⟨0, y117, (⟨8, (([0] : List Int))⟩ : S46), 0⟩ : S48), (⟨0, (([0, 0] : List Int)), (⟨0, (([0] : List Int))⟩ : S46), 0⟩ : S48)] : List (S48)) : List (S48))).bind fun y129 => ((some (([(⟨0, 1, 0, 0, 1⟩ : S31), (⟨1, 2, 0, 0, 1⟩ : S31), (⟨2, 3, 0, 0, 1⟩ : S31)] : List (S31)) : List (S31))).bind fun y132 => ((chart_Spans.f y129 y132 3).bind fun t135 => ((chart_Spans.f ([] : List (S48)) ([] : List (S31)) 0).bind fun t138 => (if (t138.length : Int) = 0 then (if (t135.length : Int) = 6 then ((chart_Count.f y129 y132 0 0 3 100).bind fun t141 => (if t141 = 2 then ((chart_Count.f y129 y132 0 1 1 100).bind fun t142 => (some (t142 == 0))) else (some false))) else (some false)) else (some false)))))) = some r := by first | (rw [hy117]; with_reducible exact H) | (have H2_ := (Option.bind_some _ _).symm.trans H; rw [hy117]; with_reducible exact H2_) | (have H2_ := (Option.bind_some _ _).symm.trans H; with_reducible exact H2_) | with_reducible exact H | (rw [hy117]; exact H) | exact H
 have Ny117 := Aside0.mk hy117
 clear hy117
 obtain ⟨y120, hy120⟩ : ∃ y_ : List Int, y_ = (([0] : List Int)) := ⟨_, rfl⟩
 replace H : ((some (([(⟨0, y117, (⟨8, y120⟩ : S46), 0⟩ : S48), (⟨0, (([0, 0] : List Int)), (⟨0, (([0] : List Int))⟩ : S46), 0⟩ : S48)] : List (S48)) : List (S48))).bind fun y129 => ((some (([(⟨0, 1, 0, 0, 1⟩ : S31), (⟨1, 2, 0, 0, 1⟩ : S31), (⟨2, 3, 0, 0, 1⟩ : S31)] : List (S31)) : List (S31))).bind fun y132 => ((chart_Spans.f y129 y132 3).bind fun t135 => ((chart_Spans.f ([] : List (S48)) ([] : List (S31)) 0).bind fun t138 => (if (t138.length : Int) = 0 then (if (t135.length : Int) = 6 then ((chart_Count.f y129 y132 0 0 3 100).bind fun t141 => (if t141 = 2 then ((chart_Count.f y129 y132 0 1 1 100).bind fun t142 => (some (t142 == 0))) else (some false))) else (some false)) else (some false)))))) = some r := by first | (rw [hy120]; with_reducible exact H) | (have H2_ := (Option.bind_some _ _).symm.trans H; rw [hy120]; with_reducible exact H2_) | (have H2_ := (Option.bind_some _ _).symm.trans H; with_reducible exact H2_) | with_reducible exact H | (rw [hy120]; exact H) | exact H
 have Ny120 := Aside0.mk hy120
 clear hy120
 obtain ⟨y123, hy123⟩ : ∃ y_ : List Int, y_ = (([0, 0] : List Int)) := ⟨_, rfl⟩
 replace H : ((some (([(⟨0, y117, (⟨8, y120⟩ : S46), 0⟩ : S48), (⟨0, y123, (⟨0, (([0] : List Int))⟩ : S46), 0⟩ : S48)] : List (S48)) : List (S48))).bind fun y129 => ((some (([(⟨0, 1, 0, 0, 1⟩ : S31), (⟨1, 2, 0, 0, 1⟩ : S31), (⟨2, 3, 0, 0, 1⟩ : S31)] : List (S31)) : List (S31))).bind fun y132 => ((chart_Spans.f y129 y132 3).bind fun t135 => ((chart_Spans.f ([] : List (S48)) ([] : List (S31)) 0).bind fun t138 => (if (t138.length : Int) = 0 then (if (t135.length : Int) = 6 then ((chart_Count.f y129 y132 0 0 3 100).bind fun t141 => (if t141 = 2 then ((chart_Count.f y129 y132 0 1 1 100).bind fun t142 => (some (t142 == 0))) else (some false))) else (some false)) else (some false)))))) = some r := by first | (rw [hy123]; with_reducible exact H) | (have H2_ := (Option.bind_some _ _).symm.trans H; rw [hy123]; with_reducible exact H2_) | (have H2_ := (Option.bind_some _ _).symm.trans H; with_reducible exact H2_) | with_reducible exact H | (rw [hy123]; exact H) | exact H
 have Ny123 := Aside0.mk hy123
 clear hy123
 obtain ⟨y126, hy126⟩ : ∃ y_ : List Int, y_ = (([0] : List Int)) := ⟨_, rfl⟩
 replace H : ((some (([(⟨0, y117, (⟨8, y120⟩ : S46), 0⟩ : S48), (⟨0, y123, (⟨0, y126⟩ : S46), 0⟩ : S48)] : List (S48)) : List (S48))).bind fun y129 => ((some (([(⟨0, 1, 0, 0, 1⟩ : S31), (⟨1, 2, 0, 0, 1⟩ : S31), (⟨2, 3, 0, 0, 1⟩ : S31)] : List (S31)) : List (S31))).bind fun y132 => ((chart_Spans.f y129 y132 3).bind fun t135 => ((chart_Spans.f ([] : List (S48)) ([] : List (S31)) 0).bind fun t138 => (if (t138.length : Int) = 0 then (if (t135.length : Int) = 6 then ((chart_Count.f y129 y132 0 0 3 100).bind fun t141 => (if t141 = 2 then ((chart_Count.f y129 y132 0 1 1 100).bind fun t142 => (some (t142 == 0))) else (some false))) else (some false)) else (some false)))))) = some r := by first | (rw [hy126]; with_reducible exact H) | (have H2_ := (Option.bind_some _ _).symm.trans H; rw [hy126]; with_reducible exact H2_) | (have H2_ := (Option.bind_some _ _).symm.trans H; with_reducible exact H2_) | with_reducible exact H | (rw [hy126]; exact H) | exact H
 have Ny126 := Aside0.mk hy126
 clear hy126
 obtain ⟨y129, hy129⟩ : ∃ y_ : List (S48), y_ = (([(⟨0, y117, (⟨8, y120⟩ : S46), 0⟩ : S48), (⟨0, y123, (⟨0, y126⟩ : S46), 0⟩ : S48)] : List (S48))) := ⟨_, rfl⟩
 replace H : ((some (([(⟨0, 1, 0, 0, 1⟩ : S31), (⟨1, 2, 0, 0, 1⟩ : S31), (⟨2, 3, 0, 0, 1⟩ : S31)] : List (S31)) : List (S31))).bind fun y132 => ((chart_Spans.f y129 y132 3).bind fun t135 => ((chart_Spans.f ([] : List (S48)) ([] : List (S31)) 0).bind fun t138 => (if (t138.length : Int) = 0 then (if (t135.length : Int) = 6 then ((chart_Count.f y129 y132 0 0 3 100).bind fun t141 => (if t141 = 2 then ((chart_Count.f y129 y132 0 1 1 100).bind fun t142 => (some (t142 == 0))) else (some false))) else (some false)) else (some false))))) = some r := by first | (rw [hy129]; with_reducible exact H) | (have H2_ := (Option.bind_some _ _).symm.trans H; rw [hy129]; with_reducible exact H2_) | (have H2_ := (Option.bind_some _ _).symm.trans H; with_reducible exact H2_) | with_reducible exact H | (rw [hy129]; exact H) | exact H
 have Ny129 := Aside0.mk hy129
 clear hy129
 obtain ⟨y132, hy132⟩ : ∃ y_ : List (S31), y_ = (([(⟨0, 1, 0, 0, 1⟩ : S31), (⟨1, 2, 0, 0, 1⟩ : S31), (⟨2, 3, 0, 0, 1⟩ : S31)] : List (S31))) := ⟨_, rfl⟩
 replace H : ((chart_Spans.f y129 y132 3).bind fun t135 => ((chart_Spans.f ([] : List (S48)) ([] : List (S31)) 0).bind fun t138 => (if (t138.length : Int) = 0 then (if (t135.length : Int) = 6 then ((chart_Count.f y129 y132 0 0 3 100).bind fun t141 => (if t141 = 2 then ((chart_Count.f y129 y132 0 1 1 100).bind fun t142 => (some (t142 == 0))) else (some false))) else (some false)) else (some false)))) = some r := by first | (rw [hy132]; with_reducible exact H) | (have H2_ := (Option.bind_some _ _).symm.trans H; rw [hy132]; with_reducible exact H2_) | (have H2_ := (Option.bind_some _ _).symm.trans H; with_reducible exact H2_) | with_reducible exact H | (rw [hy132]; exact H) | exact H
 have Ny132 := Aside0.mk hy132
 clear hy132
 replace H := Option.bind_eq_some_iff.mp H
 obtain ⟨t135, A10, H⟩ := H
 replace H : ((chart_Spans.f ([] : List (S48)) ([] : List (S31)) 0).bind fun t138 => (if (t138.length : Int) = 0 then (if (t135.length : Int) = 6 then ((chart_Count.f y129 y132 0 0 3 100).bind fun t141 => (if t141 = 2 then ((chart_Count.f y129 y132 0 1 1 100).bind fun t142 => (some (t142 == 0))) else (some false))) else (some false)) else (some false))) = some r := H
 have A1 := Aside0.mk A10
 clear A10
 replace H := Option.bind_eq_some_iff.mp H
 obtain ⟨t138, A20, H⟩ := H
 replace H : (if (t138.length : Int) = 0 then (if (t135.length : Int) = 6 then ((chart_Count.f y129 y132 0 0 3 100).bind fun t141 => (if t141 = 2 then ((chart_Count.f y129 y132 0 1 1 100).bind fun t142 => (some (t142 == 0))) else (some false))) else (some false)) else (some false)) = some r := H
 have A2 := Aside0.mk A20
 clear A20
 by_cases c3 : (t138.length : Int) = 0
 ·rw [if_pos c3] at H
  have c3b0 : ((t138.length : Int) == 0) = true := beq_iff_eq.mpr c3
  have c3b1 : ((t138.length : Int) != 0) = false := bne_eq_false_iff_eq.mpr c3
  clear c3
  by_cases c4 : (t135.length : Int) = 6
  ·rw [if_pos c4] at H
   have c4b0 : ((t135.length : Int) == 6) = true := beq_iff_eq.mpr c4
   have c4b1 : ((t135.length : Int) != 6) = false := bne_eq_false_iff_eq.mpr c4
   clear c4
   replace H := Option.bind_eq_some_iff.mp H
   obtain ⟨t141, A50, H⟩ := H
   replace H : (if t141 = 2 then ((chart_Count.f y129 y132 0 1 1 100).bind fun t142 => (some (t142 == 0))) else (some false)) = some r := H
   have A5 := Aside0.mk A50
   clear A50
   by_cases c6 : t141 = 2
   ·rw [if_pos c6] at H
    have c6b0 : (t141 == 2) = true := beq_iff_eq.mpr c6
    have c6b1 : (t141 != 2) = false := bne_eq_false_iff_eq.mpr c6
    clear c6
    replace H := Option.bind_eq_some_iff.mp H
    obtain ⟨t142, A70, H⟩ := H
    replace H : (some (t142 == 0)) = some r := H
    have A7 := Aside0.mk A70
    clear A70
    obtain rfl := Option.some.inj H
    go_enter Tryz.func5, Tryz.ntmps5
    go_wp2_with (first | ((with_reducible refine gb_ (N := 4) rfl ?_); (try (refine wa_ (by rfl) ?_; dsimp only)); refine Kd.R_lit (Kd.int .i64) _ 3 ?hg (N := 4) ?hd (xs := ([(-1)] : List Int)) (inner := [.int .i64 (-1)]) (ok := fun _ => True) (okp := fun _ => True) ?hr ?hp (fun _ hk => hk) trivial (Below.refl _ _) (Nat.le_refl _) (by simp) ?_; (case hd => rfl); (case hg => rfl); (case hr => first | (go_simp; done) | (go_simp; rfl)); (case hp => exact (Reps.one (show Kd.M (Kd.int .i64) _ _ _ (-1) [.int .i64 (-1)] from rfl) (Reps.none _ _))); intro v118 w8 ho9 hb hg_ hnew_; clear hg_ hnew_; (first | rw [← Ny117.out] at ho9 | (simp only [Int.reduceToNat] at ho9; rw [← Ny117.out] at ho9)); have n0_ := Aside0.mk (Kd.R_lower ho9 (na_ (by repeat (first | (with_reducible first | exact HB.out | apply ba_ | apply aa_ | apply da_) | exact HB.out)))); have n1_ := Aside0.mk (ma_ (by repeat (first | (with_reducible first | exact HB.out | apply ba_ | apply aa_ | apply da_) | exact HB.out)) hb); clear HB; have HO119 := n0_; have HB := n1_; clear n0_ n1_; clear hb ho9) | ((with_reducible refine gb_ (N := 5) rfl ?_); (try (refine wa_ (by rfl) ?_; dsimp only)); refine Kd.R_lit (Kd.int .i64) _ 3 ?hg (N := 5) ?hd (xs := ([0] : List Int)) (inner := [.int .i64 0]) (ok := fun _ => True) (okp := fun _ => True) ?hr ?hp (fun _ hk => hk) trivial (Below.refl _ _) (Nat.le_refl _) (by simp) ?_; (case hd => rfl); (case hg => rfl); (case hr => first | (go_simp; done) | (go_simp; rfl)); (case hp => exact (Reps.one (show Kd.M (Kd.int .i64) _ _ _ 0 [.int .i64 0] from rfl) (Reps.none _ _))); intro v121 w10 ho11 hb hg_ hnew_; clear hg_ hnew_; (first | rw [← Ny120.out] at ho11 | (simp only [Int.reduceToNat] at ho11; rw [← Ny120.out] at ho11)); have n0_ := Aside0.mk (Kd.R_elder' (by (with_reducible repeat (first | apply Kd.R_alloc | apply Kd.R_drewN | apply Kd.R_drew)); exact HO119.out) (Kd.R_base ho11) hb); have n1_ := Aside0.mk (Kd.R_lower (Kd.R_new' ho11 (Kd.R_lt (by (with_reducible repeat (first | apply Kd.R_alloc | apply Kd.R_drewN | apply Kd.R_drew)); exact HO119.out))) (na_ (by repeat (first | (with_reducible first | exact HB.out | apply ba_ | apply aa_ | apply da_) | exact HB.out)))); have n2_ := Aside0.mk (ma_ (by repeat (first | (with_reducible first | exact HB.out | apply ba_ | apply aa_ | apply da_) | exact HB.out)) hb); clear HO119; clear HB; have HO119 := n0_; have HO122 := n1_; have HB := n2_; clear n0_ n1_ n2_; clear hb ho11; obtain ⟨Ao12, co12, eo12⟩ := Kd.R_slice HO122.out; subst eo12; obtain ⟨Ao13, co13, eo13⟩ := Kd.R_slice HO119.out; subst eo13) | ((with_reducible refine gb_ (N := 8) rfl ?_); (try (refine wa_ (by rfl) ?_; dsimp only)); refine Kd.R_lit (Kd.int .i64) _ 3 ?hg (N := 8) ?hd (xs := ([0, 0] : List Int)) (inner := [.int .i64 0, .int .i64 0]) (ok := fun _ => True) (okp := fun _ => True) ?hr ?hp (fun _ hk => hk) trivial (Below.refl _ _) (Nat.le_refl _) (by simp) ?_; (case hd => rfl); (case hg => rfl); (case hr => first | (go_simp; done) | (go_simp; rfl)); (case hp => exact (Reps.one (show Kd.M (Kd.int .i64) _ _ _ 0 [.int .i64 0] from rfl) (Reps.one (show Kd.M (Kd.int .i64) _ _ _ 0 [.int .i64 0] from rfl) (Reps.none _ _)))); intro v124 w14 ho15 hb hg_ hnew_; clear hg_ hnew_; (first | rw [← Ny123.out] at ho15 | (simp only [Int.reduceToNat] at ho15; rw [← Ny123.out] at ho15)); have n0_ := Aside0.mk (Kd.R_elder' (by (with_reducible repeat (first | apply Kd.R_alloc | apply Kd.R_drewN | apply Kd.R_drew)); exact HO119.out) (Kd.R_base ho15) hb); have n1_ := Aside0.mk (Kd.R_elder' (by (with_reducible repeat (first | apply Kd.R_alloc | apply Kd.R_drewN | apply Kd.R_drew)); exact HO122.out) (Kd.R_base ho15) hb); have n2_ := Aside0.mk (Kd.R_lower (Kd.R_new' (Kd.R_new' ho15 (Kd.R_lt (by (with_reducible repeat (first | apply Kd.R_alloc | apply Kd.R_drewN | apply Kd.R_drew)); exact HO119.out))) (Kd.R_lt (by (with_reducible repeat (first | apply Kd.R_alloc | apply Kd.R_drewN | apply Kd.R_drew)); exact HO122.out))) (na_ (by repeat (first | (with_reducible first | exact HB.out | apply ba_ | apply aa_ | apply da_) | exact HB.out)))); have n3_ := Aside0.mk (ma_ (by repeat (first | (with_reducible first | exact HB.out | apply ba_ | apply aa_ | apply da_) | exact HB.out)) hb); clear HO119; clear HO122; clear HB; have HO119 := n0_; have HO122 := n1_; have HO125 := n2_; have HB := n3_; clear n0_ n1_ n2_ n3_; clear hb ho15) | ((with_reducible refine gb_ (N := 9) rfl ?_); (try (refine wa_ (by rfl) ?_; dsimp only)); refine Kd.R_lit (Kd.int .i64) _ 3 ?hg (N := 9) ?hd (xs := ([0] : List Int)) (inner := [.int .i64 0]) (ok := fun _ => True) (okp := fun _ => True) ?hr ?hp (fun _ hk => hk) trivial (Below.refl _ _) (Nat.le_refl _) (by simp) ?_; (case hd => rfl); (case hg => rfl); (case hr => first | (go_simp; done) | (go_simp; rfl)); (case hp => exact (Reps.one (show Kd.M (Kd.int .i64) _ _ _ 0 [.int .i64 0] from rfl) (Reps.none _ _))); intro v127 w16 ho17 hb hg_ hnew_; clear hg_ hnew_; (first | rw [← Ny126.out] at ho17 | (simp only [Int.reduceToNat] at ho17; rw [← Ny126.out] at ho17)); have n0_ := Aside0.mk (Kd.R_elder' (by (with_reducible repeat (first | apply Kd.R_alloc | apply Kd.R_drewN | apply Kd.R_drew)); exact HO119.out) (Kd.R_base ho17) hb); have n1_ := Aside0.mk (Kd.R_elder' (by (with_reducible repeat (first | apply Kd.R_alloc | apply Kd.R_drewN | apply Kd.R_drew)); exact HO122.out) (Kd.R_base ho17) hb); have n2_ := Aside0.mk (Kd.R_elder' (by (with_reducible repeat (first | apply Kd.R_alloc | apply Kd.R_drewN | apply Kd.R_drew)); exact HO125.out) (Kd.R_base ho17) hb); have n3_ := Aside0.mk (Kd.R_lower (Kd.R_new' (Kd.R_new' (Kd.R_new' ho17 (Kd.R_lt (by (with_reducible repeat (first | apply Kd.R_alloc | apply Kd.R_drewN | apply Kd.R_drew)); exact HO119.out))) (Kd.R_lt (by (with_reducible repeat (first | apply Kd.R_alloc | apply Kd.R_drewN | apply Kd.R_drew)); exact HO122.out))) (Kd.R_lt (by (with_reducible repeat (first | apply Kd.R_alloc | apply Kd.R_drewN | apply Kd.R_drew)); exact HO125.out))) (na_ (by repeat (first | (with_reducible first | exact HB.out | apply ba_ | apply aa_ | apply da_) | exact HB.out)))); have n4_ := Aside0.mk (ma_ (by repeat (first | (with_reducible first | exact HB.out | apply ba_ | apply aa_ | apply da_) | exact HB.out)) hb); clear HO119; clear HO122; clear HO125; clear HB; have HO119 := n0_; have HO122 := n1_; have HO125 := n2_; have HO128 := n3_; have HB := n4_; clear n0_ n1_ n2_ n3_ n4_; clear hb ho17; obtain ⟨Ao18, co18, eo18⟩ := Kd.R_slice HO128.out; subst eo18; obtain ⟨Ao19, co19, eo19⟩ := Kd.R_slice HO125.out; subst eo19) | ((with_reducible refine gb_ (N := 12) rfl ?_); (try (refine wa_ (by rfl) ?_; dsimp only)); refine Kd.N_lit k48 _ 48 ?hg (N' := 12) ?hd (xs := ([(⟨0, y117, (⟨8, y120⟩ : S46), 0⟩ : S48), (⟨0, y123, (⟨0, y126⟩ : S46), 0⟩ : S48)] : List (S48))) (inner := [.int .i64 0, .slice Ao13 y117.length co13, .int .i64 8, .slice Ao12 y120.length co12, .int .i64 0, .int .i64 0, .slice Ao19 y123.length co19, .int .i64 0, .slice Ao18 y126.length co18, .int .i64 0]) (ok := (fun _ => True)) (okp := (fun _ => True)) ?hr ?hp (fun _ hk => hk) ((show ∀ k_, w16.heap.size ≤ k_ → (fun _ => True) k_ from fun k_ hk => trivial) _ (Nat.le_refl _)) (Below.refl _ _) (Nat.le_refl _) (by simp) ?_; (case hd => rfl); (case hg => rfl); (case hr => first | (go_simp; done) | (go_simp; rfl)); (case hp => exact (Reps.c5 (show Kd.FK k48 _ _ (⟨0, y117, (⟨8, y120⟩ : S46), 0⟩ : S48) [.int .i64 0, .slice Ao13 y117.length co13, .int .i64 8, .slice Ao12 y120.length co12, .int .i64 0] from (ze_ _ _ (⟨0, y117, (⟨8, y120⟩ : S46), 0⟩ : S48) (Kd.R_reads' (Kd.R_mono (ok' := (fun _ => True)) (HO119.out) (fun k_ hk => trivial))).2.1 (Kd.R_F (Kd.R_mono (ok' := (fun _ => True)) (HO119.out) (fun k_ hk => trivial))) (Kd.R_reads' (Kd.R_mono (ok' := (fun _ => True)) (HO122.out) (fun k_ hk => trivial))).2.1 (Kd.R_F (Kd.R_mono (ok' := (fun _ => True)) (HO122.out) (fun k_ hk => trivial))))) (Reps.c5 (show Kd.FK k48 _ _ (⟨0, y123, (⟨0, y126⟩ : S46), 0⟩ : S48) [.int .i64 0, .slice Ao19 y123.length co19, .int .i64 0, .slice Ao18 y126.length co18, .int .i64 0] from (ze_ _ _ (⟨0, y123, (⟨0, y126⟩ : S46), 0⟩ : S48) (Kd.R_reads' (Kd.R_mono (ok' := (fun _ => True)) (HO125.out) (fun k_ hk => trivial))).2.1 (Kd.R_F (Kd.R_mono (ok' := (fun _ => True)) (HO125.out) (fun k_ hk => trivial))) (Kd.R_reads' (Kd.R_mono (ok' := (fun _ => True)) (HO128.out) (fun k_ hk => trivial))).2.1 (Kd.R_F (Kd.R_mono (ok' := (fun _ => True)) (HO128.out) (fun k_ hk => trivial))))) (Reps.none _ _)))); intro v130 w20 ho21 hb hg_ hnew_; clear hg_ hnew_; (first | rw [← Ny129.out] at ho21 | (simp only [Int.reduceToNat] at ho21; rw [← Ny129.out] at ho21)); have n0_ := Aside0.mk (Kd.N_lower ho21 (na_ (by repeat (first | (with_reducible first | exact HB.out | apply ba_ | apply aa_ | apply da_) | exact HB.out)))); have n1_ := Aside0.mk (ma_ (by repeat (first | (with_reducible first | exact HB.out | apply ba_ | apply aa_ | apply da_) | exact HB.out)) hb); clear HB; clear HO119; clear HO122; clear HO125; clear HO128; have HO131 := n0_; have HB := n1_; clear n0_ n1_; clear hb ho21) | ((with_reducible refine gb_ (N := 16) rfl ?_); (try (refine wa_ (by rfl) ?_; dsimp only)); refine Kd.R_lit k31 _ 31 ?hg (N := 16) ?hd (xs := ([(⟨0, 1, 0, 0, 1⟩ : S31), (⟨1, 2, 0, 0, 1⟩ : S31), (⟨2, 3, 0, 0, 1⟩ : S31)] : List (S31))) (inner := [.int .i64 0, .int .i64 1, .int .i64 0, .int .i64 0, .int .i64 1, .int .i64 1, .int .i64 2, .int .i64 0, .int .i64 0, .int .i64 1, .int .i64 2, .int .i64 3, .int .i64 0, .int .i64 0, .int .i64 1]) (ok := fun _ => True) (okp := fun _ => True) ?hr ?hp (fun _ hk => hk) trivial (Below.refl _ _) (Nat.le_refl _) (by simp) ?_; (case hd => rfl); (case hg => rfl); (case hr => first | (go_simp; done) | (go_simp; rfl)); (case hp => exact (Reps.c5 (show Kd.M k31 _ _ _ (⟨0, 1, 0, 0, 1⟩ : S31) [.int .i64 0, .int .i64 1, .int .i64 0, .int .i64 0, .int .i64 1] from (cd_ _ _ _ (⟨0, 1, 0, 0, 1⟩ : S31) )) (Reps.c5 (show Kd.M k31 _ _ _ (⟨1, 2, 0, 0, 1⟩ : S31) [.int .i64 1, .int .i64 2, .int .i64 0, .int .i64 0, .int .i64 1] from (cd_ _ _ _ (⟨1, 2, 0, 0, 1⟩ : S31) )) (Reps.c5 (show Kd.M k31 _ _ _ (⟨2, 3, 0, 0, 1⟩ : S31) [.int .i64 2, .int .i64 3, .int .i64 0, .int .i64 0, .int .i64 1] from (cd_ _ _ _ (⟨2, 3, 0, 0, 1⟩ : S31) )) (Reps.none _ _))))); intro v133 w22 ho23 hb hg_ hnew_; clear hg_ hnew_; (first | rw [← Ny132.out] at ho23 | (simp only [Int.reduceToNat] at ho23; rw [← Ny132.out] at ho23)); have n0_ := Aside0.mk (Kd.N_elder' (by (with_reducible repeat (first | apply Kd.N_alloc | apply Kd.N_drewN | apply Kd.N_drew)); exact HO131.out) (Kd.R_base ho23) hb); have n1_ := Aside0.mk (Kd.R_lower ho23 (na_ (by repeat (first | (with_reducible first | exact HB.out | apply ba_ | apply aa_ | apply da_) | exact HB.out)))); have n2_ := Aside0.mk (ma_ (by repeat (first | (with_reducible first | exact HB.out | apply ba_ | apply aa_ | apply da_) | exact HB.out)) hb); clear HO131; clear HB; have HO131 := n0_; have HO134 := n1_; have HB := n2_; clear n0_ n1_ n2_; clear hb ho23; obtain ⟨Ao24, co24, eo24⟩ := Kd.N_slice HO131.out; subst eo24; obtain ⟨Ao25, co25, eo25⟩ := Kd.R_slice HO134.out; subst eo25) | ((with_reducible refine oa_ (f := 10) rfl ?_); refine fb_ (some 19) rfl rfl Tryz.func10 (by kernel_rfl) rfl #[.slice Ao24 y129.length co24, .slice Ao25 y132.length co25, .int .i64 3] rfl (by (try simp only [List.map_toArray, List.map_cons, List.map_nil]); first | done | rfl | (simp only [List.length_drop, List.length_take]; rfl)) ?_; (with_reducible refine (chart_Spans.calls _ _ y129 _ _ y132 3 t135 _ ?side1 ?side2 ?side3 ?side4 A1.out).mono ?_); (case side1 => repeat (first | exact (Kd.N_reads' HO131.out).2.2 | (with_reducible refine Kd.C_alloc ?_ _) | (with_reducible refine Kd.C_drewN ?_ _) | (with_reducible refine Kd.C_drew ?_))); (case side2 => exact (Kd.N_reads' HO131.out).2.1); (case side3 => repeat (first | exact (Kd.R_reads' HO134.out).2.2 | (with_reducible refine Kd.C_alloc ?_ _) | (with_reducible refine Kd.C_drewN ?_ _) | (with_reducible refine Kd.C_drew ?_))); (case side4 => exact (Kd.R_reads' HO134.out).2.1); rintro e w26 ⟨v136, rfl, ho0, hb⟩; refine ⟨_, rfl, ?_⟩; have n0_ := Aside0.mk (Kd.N_elder' (by (with_reducible repeat (first | apply Kd.N_alloc | apply Kd.N_drewN | apply Kd.N_drew)); exact HO131.out) (Kd.R_base ho0) hb); have n1_ := Aside0.mk (Kd.R_below (by (with_reducible repeat (first | apply Kd.R_alloc | apply Kd.R_drewN | apply Kd.R_drew)); exact HO134.out) hb); have n2_ := Aside0.mk (Kd.R_lower ho0 (na_ (by repeat (first | (with_reducible first | exact HB.out | apply ba_ | apply aa_ | apply da_) | exact HB.out)))); have n3_ := Aside0.mk (ma_ (by repeat (first | (with_reducible first | exact HB.out | apply ba_ | apply aa_ | apply da_) | exact HB.out)) hb); clear HO131; clear HO134; clear HB; have HO131 := n0_; have HO134 := n1_; have HO137 := n2_; have HB := n3_; clear n0_ n1_ n2_ n3_; (try clear hb); (try clear hb2); (try clear hk); (try clear hi); (try clear ho0)) | ((with_reducible refine oa_ (f := 10) rfl ?_); refine fb_ (some 20) rfl rfl Tryz.func10 (by kernel_rfl) rfl #[.slice none 0 0, .slice none 0 0, .int .i64 0] rfl (by (try simp only [List.map_toArray, List.map_cons, List.map_nil]); first | done | rfl | (simp only [List.length_drop, List.length_take]; rfl)) ?_; (refine (chart_Spans.calls _ _ ([] : List (S48)) _ _ ([] : List (S31)) 0 t138 _ ?side1 ?side2 ?side3 ?side4 A2.out).mono ?_); (case side1 => exact Kd.C_nil _ _); (case side2 => exact Nat.le_refl _); (case side3 => exact Kd.C_nil _ _); (case side4 => exact Nat.le_refl _); rintro e w27 ⟨v139, rfl, ho0, hb⟩; refine ⟨_, rfl, ?_⟩; have n0_ := Aside0.mk (Kd.N_elder' (by (with_reducible repeat (first | apply Kd.N_alloc | apply Kd.N_drewN | apply Kd.N_drew)); exact HO131.out) (Kd.R_base ho0) hb); have n1_ := Aside0.mk (Kd.R_below (by (with_reducible repeat (first | apply Kd.R_alloc | apply Kd.R_drewN | apply Kd.R_drew)); exact HO134.out) hb); have n2_ := Aside0.mk (Kd.R_elder' (by (with_reducible repeat (first | apply Kd.R_alloc | apply Kd.R_drewN | apply Kd.R_drew)); exact HO137.out) (Kd.R_base ho0) hb); have n3_ := Aside0.mk (Kd.R_lower (Kd.R_new' ho0 (Kd.R_lt (by (with_reducible repeat (first | apply Kd.R_alloc | apply Kd.R_drewN | apply Kd.R_drew)); exact HO137.out))) (na_ (by repeat (first | (with_reducible first | exact HB.out | apply ba_ | apply aa_ | apply da_) | exact HB.out)))); have n4_ := Aside0.mk (ma_ (by repeat (first | (with_reducible first | exact HB.out | apply ba_ | apply aa_ | apply da_) | exact HB.out)) hb); clear HO131; clear HO134; clear HO137; clear HB; have HO131 := n0_; have HO134 := n1_; have HO137 := n2_; have HO140 := n3_; have HB := n4_; clear n0_ n1_ n2_ n3_ n4_; (try clear hb); (try clear hb2); (try clear hk); (try clear hi); (try clear ho0); obtain ⟨Ao28, co28, eo28⟩ := Kd.R_slice HO140.out; subst eo28; obtain ⟨Ao29, co29, eo29⟩ := Kd.R_slice HO137.out; subst eo29) | (go_at_call 12; (with_reducible refine (chart_Count.calls _ _ y129 _ _ y132 0 0 3 100 t141 _ ?side1 ?side2 ?side3 ?side4 A5.out).mono ?_); (case side1 => repeat (first | exact (Kd.N_reads' HO131.out).2.2 | (with_reducible refine Kd.C_alloc ?_ _) | (with_reducible refine Kd.C_drewN ?_ _) | (with_reducible refine Kd.C_drew ?_))); (case side2 => exact (Kd.N_reads' HO131.out).2.1); (case side3 => repeat (first | exact (Kd.R_reads' HO134.out).2.2 | (with_reducible refine Kd.C_alloc ?_ _) | (with_reducible refine Kd.C_drewN ?_ _) | (with_reducible refine Kd.C_drew ?_))); (case side4 => exact (Kd.R_reads' HO134.out).2.1); rintro e w30 ⟨rfl, hb⟩; have n0_ := Aside0.mk (Kd.N_below (by (with_reducible repeat (first | apply Kd.N_alloc | apply Kd.N_drewN | apply Kd.N_drew)); exact HO131.out) hb); have n1_ := Aside0.mk (Kd.R_below (by (with_reducible repeat (first | apply Kd.R_alloc | apply Kd.R_drewN | apply Kd.R_drew)); exact HO134.out) hb); have n2_ := Aside0.mk (Kd.R_below (by (with_reducible repeat (first | apply Kd.R_alloc | apply Kd.R_drewN | apply Kd.R_drew)); exact HO137.out) hb); have n3_ := Aside0.mk (Kd.R_below (by (with_reducible repeat (first | apply Kd.R_alloc | apply Kd.R_drewN | apply Kd.R_drew)); exact HO140.out) hb); have n4_ := Aside0.mk (ma_ (by repeat (first | (with_reducible first | exact HB.out | apply ba_ | apply aa_ | apply da_) | exact HB.out)) hb); clear HO131; clear HO134; clear HO137; clear HO140; clear HB; have HO131 := n0_; have HO134 := n1_; have HO137 := n2_; have HO140 := n3_; have HB := n4_; clear n0_ n1_ n2_ n3_ n4_; (try clear hb); (try clear hb2); (try clear hk); (try clear hi)) | (go_at_call 12; (with_reducible refine (chart_Count.calls _ _ y129 _ _ y132 0 1 1 100 t142 _ ?side1 ?side2 ?side3 ?side4 A7.out).mono ?_); (case side1 => repeat (first | exact (Kd.N_reads' HO131.out).2.2 | (with_reducible refine Kd.C_alloc ?_ _) | (with_reducible refine Kd.C_drewN ?_ _) | (with_reducible refine Kd.C_drew ?_))); (case side2 => exact (Kd.N_reads' HO131.out).2.1); (case side3 => repeat (first | exact (Kd.R_reads' HO134.out).2.2 | (with_reducible refine Kd.C_alloc ?_ _) | (with_reducible refine Kd.C_drewN ?_ _) | (with_reducible refine Kd.C_drew ?_))); (case side4 => exact (Kd.R_reads' HO134.out).2.1); rintro e w31 ⟨rfl, hb⟩; have n0_ := Aside0.mk (Kd.N_below (by (with_reducible repeat (first | apply Kd.N_alloc | apply Kd.N_drewN | apply Kd.N_drew)); exact HO131.out) hb); have n1_ := Aside0.mk (Kd.R_below (by (with_reducible repeat (first | apply Kd.R_alloc | apply Kd.R_drewN | apply Kd.R_drew)); exact HO134.out) hb); have n2_ := Aside0.mk (Kd.R_below (by (with_reducible repeat (first | apply Kd.R_alloc | apply Kd.R_drewN | apply Kd.R_drew)); exact HO137.out) hb); have n3_ := Aside0.mk (Kd.R_below (by (with_reducible repeat (first | apply Kd.R_alloc | apply Kd.R_drewN | apply Kd.R_drew)); exact HO140.out) hb); have n4_ := Aside0.mk (ma_ (by repeat (first | (with_reducible first | exact HB.out | apply ba_ | apply aa_ | apply da_) | exact HB.out)) hb); clear HO131; clear HO134; clear HO137; clear HO140; clear HB; have HO131 := n0_; have HO134 := n1_; have HO137 := n2_; have HO140 := n3_; have HB := n4_; clear n0_ n1_ n2_ n3_ n4_; (try clear hb); (try clear hb2); (try clear hk); (try clear hi)))
    go_ret
    exact ⟨by first | rfl | (simp [ta_, sa_] <;> rfl) | (simp [*, ta_, sa_] <;> rfl), by repeat (first | (with_reducible first | exact HB.out | apply ba_ | apply aa_ | apply da_) | exact HB.out)⟩
   rw [if_neg c6] at H
   have c6b0 : (t141 == 2) = false := beq_eq_false_iff_ne.mpr c6
   have c6b1 : (t141 != 2) = true := bne_iff_ne.mpr c6
   obtain rfl := Option.some.inj H
   go_enter Tryz.func5, Tryz.ntmps5
   go_wp2_with (first | ((with_reducible refine gb_ (N := 4) rfl ?_); (try (refine wa_ (by rfl) ?_; dsimp only)); refine Kd.R_lit (Kd.int .i64) _ 3 ?hg (N := 4) ?hd (xs := ([(-1)] : List Int)) (inner := [.int .i64 (-1)]) (ok := fun _ => True) (okp := fun _ => True) ?hr ?hp (fun _ hk => hk) trivial (Below.refl _ _) (Nat.le_refl _) (by simp) ?_; (case hd => rfl); (case hg => rfl); (case hr => first | (go_simp; done) | (go_simp; rfl)); (case hp => exact (Reps.one (show Kd.M (Kd.int .i64) _ _ _ (-1) [.int .i64 (-1)] from rfl) (Reps.none _ _))); intro v118 w32 ho33 hb hg_ hnew_; clear hg_ hnew_; (first | rw [← Ny117.out] at ho33 | (simp only [Int.reduceToNat] at ho33; rw [← Ny117.out] at ho33)); have n0_ := Aside0.mk (Kd.R_lower ho33 (na_ (by repeat (first | (with_reducible first | exact HB.out | apply ba_ | apply aa_ | apply da_) | exact HB.out)))); have n1_ := Aside0.mk (ma_ (by repeat (first | (with_reducible first | exact HB.out | apply ba_ | apply aa_ | apply da_) | exact HB.out)) hb); clear HB; have HO119 := n0_; have HB := n1_; clear n0_ n1_; clear hb ho33) | ((with_reducible refine gb_ (N := 5) rfl ?_); (try (refine wa_ (by rfl) ?_; dsimp only)); refine Kd.R_lit (Kd.int .i64) _ 3 ?hg (N := 5) ?hd (xs := ([0] : List Int)) (inner := [.int .i64 0]) (ok := fun _ => True) (okp := fun _ => True) ?hr ?hp (fun _ hk => hk) trivial (Below.refl _ _) (Nat.le_refl _) (by simp) ?_; (case hd => rfl); (case hg => rfl); (case hr => first | (go_simp; done) | (go_simp; rfl)); (case hp => exact (Reps.one (show Kd.M (Kd.int .i64) _ _ _ 0 [.int .i64 0] from rfl) (Reps.none _ _))); intro v121 w34 ho35 hb hg_ hnew_; clear hg_ hnew_; (first | rw [← Ny120.out] at ho35 | (simp only [Int.reduceToNat] at ho35; rw [← Ny120.out] at ho35)); have n0_ := Aside0.mk (Kd.R_elder' (by (with_reducible repeat (first | apply Kd.R_alloc | apply Kd.R_drewN | apply Kd.R_drew)); exact HO119.out) (Kd.R_base ho35) hb); have n1_ := Aside0.mk (Kd.R_lower (Kd.R_new' ho35 (Kd.R_lt (by (with_reducible repeat (first | apply Kd.R_alloc | apply Kd.R_drewN | apply Kd.R_drew)); exact HO119.out))) (na_ (by repeat (first | (with_reducible first | exact HB.out | apply ba_ | apply aa_ | apply da_) | exact HB.out)))); have n2_ := Aside0.mk (ma_ (by repeat (first | (with_reducible first | exact HB.out | apply ba_ | apply aa_ | apply da_) | exact HB.out)) hb); clear HO119; clear HB; have HO119 := n0_; have HO122 := n1_; have HB := n2_; clear n0_ n1_ n2_; clear hb ho35; obtain ⟨Ao36, co36, eo36⟩ := Kd.R_slice HO122.out; subst eo36; obtain ⟨Ao37, co37, eo37⟩ := Kd.R_slice HO119.out; subst eo37) | ((with_reducible refine gb_ (N := 8) rfl ?_); (try (refine wa_ (by rfl) ?_; dsimp only)); refine Kd.R_lit (Kd.int .i64) _ 3 ?hg (N := 8) ?hd (xs := ([0, 0] : List Int)) (inner := [.int .i64 0, .int .i64 0]) (ok := fun _ => True) (okp := fun _ => True) ?hr ?hp (fun _ hk => hk) trivial (Below.refl _ _) (Nat.le_refl _) (by simp) ?_; (case hd => rfl); (case hg => rfl); (case hr => first | (go_simp; done) | (go_simp; rfl)); (case hp => exact (Reps.one (show Kd.M (Kd.int .i64) _ _ _ 0 [.int .i64 0] from rfl) (Reps.one (show Kd.M (Kd.int .i64) _ _ _ 0 [.int .i64 0] from rfl) (Reps.none _ _)))); intro v124 w38 ho39 hb hg_ hnew_; clear hg_ hnew_; (first | rw [← Ny123.out] at ho39 | (simp only [Int.reduceToNat] at ho39; rw [← Ny123.out] at ho39)); have n0_ := Aside0.mk (Kd.R_elder' (by (with_reducible repeat (first | apply Kd.R_alloc | apply Kd.R_drewN | apply Kd.R_drew)); exact HO119.out) (Kd.R_base ho39) hb); have n1_ := Aside0.mk (Kd.R_elder' (by (with_reducible repeat (first | apply Kd.R_alloc | apply Kd.R_drewN | apply Kd.R_drew)); exact HO122.out) (Kd.R_base ho39) hb); have n2_ := Aside0.mk (Kd.R_lower (Kd.R_new' (Kd.R_new' ho39 (Kd.R_lt (by (with_reducible repeat (first | apply Kd.R_alloc | apply Kd.R_drewN | apply Kd.R_drew)); exact HO119.out))) (Kd.R_lt (by (with_reducible repeat (first | apply Kd.R_alloc | apply Kd.R_drewN | apply Kd.R_drew)); exact HO122.out))) (na_ (by repeat (first | (with_reducible first | exact HB.out | apply ba_ | apply aa_ | apply da_) | exact HB.out)))); have n3_ := Aside0.mk (ma_ (by repeat (first | (with_reducible first | exact HB.out | apply ba_ | apply aa_ | apply da_) | exact HB.out)) hb); clear HO119; clear HO122; clear HB; have HO119 := n0_; have HO122 := n1_; have HO125 := n2_; have HB := n3_; clear n0_ n1_ n2_ n3_; clear hb ho39) | ((with_reducible refine gb_ (N := 9) rfl ?_); (try (refine wa_ (by rfl) ?_; dsimp only)); refine Kd.R_lit (Kd.int .i64) _ 3 ?hg (N := 9) ?hd (xs := ([0] : List Int)) (inner := [.int .i64 0]) (ok := fun _ => True) (okp := fun _ => True) ?hr ?hp (fun _ hk => hk) trivial (Below.refl _ _) (Nat.le_refl _) (by simp) ?_; (case hd => rfl); (case hg => rfl); (case hr => first | (go_simp; done) | (go_simp; rfl)); (case hp => exact (Reps.one (show Kd.M (Kd.int .i64) _ _ _ 0 [.int .i64 0] from rfl) (Reps.none _ _))); intro v127 w40 ho41 hb hg_ hnew_; clear hg_ hnew_; (first | rw [← Ny126.out] at ho41 | (simp only [Int.reduceToNat] at ho41; rw [← Ny126.out] at ho41)); have n0_ := Aside0.mk (Kd.R_elder' (by (with_reducible repeat (first | apply Kd.R_alloc | apply Kd.R_drewN | apply Kd.R_drew)); exact HO119.out) (Kd.R_base ho41) hb); have n1_ := Aside0.mk (Kd.R_elder' (by (with_reducible repeat (first | apply Kd.R_alloc | apply Kd.R_drewN | apply Kd.R_drew)); exact HO122.out) (Kd.R_base ho41) hb); have n2_ := Aside0.mk (Kd.R_elder' (by (with_reducible repeat (first | apply Kd.R_alloc | apply Kd.R_drewN | apply Kd.R_drew)); exact HO125.out) (Kd.R_base ho41) hb); have n3_ := Aside0.mk (Kd.R_lower (Kd.R_new' (Kd.R_new' (Kd.R_new' ho41 (Kd.R_lt (by (with_reducible repeat (first | apply Kd.R_alloc | apply Kd.R_drewN | apply Kd.R_drew)); exact HO119.out))) (Kd.R_lt (by (with_reducible repeat (first | apply Kd.R_alloc | apply Kd.R_drewN | apply Kd.R_drew)); exact HO122.out))) (Kd.R_lt (by (with_reducible repeat (first | apply Kd.R_alloc | apply Kd.R_drewN | apply Kd.R_drew)); exact HO125.out))) (na_ (by repeat (first | (with_reducible first | exact HB.out | apply ba_ | apply aa_ | apply da_) | exact HB.out)))); have n4_ := Aside0.mk (ma_ (by repeat (first | (with_reducible first | exact HB.out | apply ba_ | apply aa_ | apply da_) | exact HB.out)) hb); clear HO119; clear HO122; clear HO125; clear HB; have HO119 := n0_; have HO122 := n1_; have HO125 := n2_; have HO128 := n3_; have HB := n4_; clear n0_ n1_ n2_ n3_ n4_; clear hb ho41; obtain ⟨Ao42, co42, eo42⟩ := Kd.R_slice HO128.out; subst eo42; obtain ⟨Ao43, co43, eo43⟩ := Kd.R_slice HO125.out; subst eo43) | ((with_reducible refine gb_ (N := 12) rfl ?_); (try (refine wa_ (by rfl) ?_; dsimp only)); refine Kd.N_lit k48 _ 48 ?hg (N' := 12) ?hd (xs := ([(⟨0, y117, (⟨8, y120⟩ : S46), 0⟩ : S48), (⟨0, y123, (⟨0, y126⟩ : S46), 0⟩ : S48)] : List (S48))) (inner := [.int .i64 0, .slice Ao37 y117.length co37, .int .i64 8, .slice Ao36 y120.length co36, .int .i64 0, .int .i64 0, .slice Ao43 y123.length co43, .int .i64 0, .slice Ao42 y126.length co42, .int .i64 0]) (ok := (fun _ => True)) (okp := (fun _ => True)) ?hr ?hp (fun _ hk => hk) ((show ∀ k_, w40.heap.size ≤ k_ → (fun _ => True) k_ from fun k_ hk => trivial) _ (Nat.le_refl _)) (Below.refl _ _) (Nat.le_refl _) (by simp) ?_; (case hd => rfl); (case hg => rfl); (case hr => first | (go_simp; done) | (go_simp; rfl)); (case hp => exact (Reps.c5 (show Kd.FK k48 _ _ (⟨0, y117, (⟨8, y120⟩ : S46), 0⟩ : S48) [.int .i64 0, .slice Ao37 y117.length co37, .int .i64 8, .slice Ao36 y120.length co36, .int .i64 0] from (ze_ _ _ (⟨0, y117, (⟨8, y120⟩ : S46), 0⟩ : S48) (Kd.R_reads' (Kd.R_mono (ok' := (fun _ => True)) (HO119.out) (fun k_ hk => trivial))).2.1 (Kd.R_F (Kd.R_mono (ok' := (fun _ => True)) (HO119.out) (fun k_ hk => trivial))) (Kd.R_reads' (Kd.R_mono (ok' := (fun _ => True)) (HO122.out) (fun k_ hk => trivial))).2.1 (Kd.R_F (Kd.R_mono (ok' := (fun _ => True)) (HO122.out) (fun k_ hk => trivial))))) (Reps.c5 (show Kd.FK k48 _ _ (⟨0, y123, (⟨0, y126⟩ : S46), 0⟩ : S48) [.int .i64 0, .slice Ao43 y123.length co43, .int .i64 0, .slice Ao42 y126.length co42, .int .i64 0] from (ze_ _ _ (⟨0, y123, (⟨0, y126⟩ : S46), 0⟩ : S48) (Kd.R_reads' (Kd.R_mono (ok' := (fun _ => True)) (HO125.out) (fun k_ hk => trivial))).2.1 (Kd.R_F (Kd.R_mono (ok' := (fun _ => True)) (HO125.out) (fun k_ hk => trivial))) (Kd.R_reads' (Kd.R_mono (ok' := (fun _ => True)) (HO128.out) (fun k_ hk => trivial))).2.1 (Kd.R_F (Kd.R_mono (ok' := (fun _ => True)) (HO128.out) (fun k_ hk => trivial))))) (Reps.none _ _)))); intro v130 w44 ho45 hb hg_ hnew_; clear hg_ hnew_; (first | rw [← Ny129.out] at ho45 | (simp only [Int.reduceToNat] at ho45; rw [← Ny129.out] at ho45)); have n0_ := Aside0.mk (Kd.N_lower ho45 (na_ (by repeat (first | (with_reducible first | exact HB.out | apply ba_ | apply aa_ | apply da_) | exact HB.out)))); have n1_ := Aside0.mk (ma_ (by repeat (first | (with_reducible first | exact HB.out | apply ba_ | apply aa_ | apply da_) | exact HB.out)) hb); clear HB; clear HO119; clear HO122; clear HO125; clear HO128; have HO131 := n0_; have HB := n1_; clear n0_ n1_; clear hb ho45) | ((with_reducible refine gb_ (N := 16) rfl ?_); (try (refine wa_ (by rfl) ?_; dsimp only)); refine Kd.R_lit k31 _ 31 ?hg (N := 16) ?hd (xs := ([(⟨0, 1, 0, 0, 1⟩ : S31), (⟨1, 2, 0, 0, 1⟩ : S31), (⟨2, 3, 0, 0, 1⟩ : S31)] : List (S31))) (inner := [.int .i64 0, .int .i64 1, .int .i64 0, .int .i64 0, .int .i64 1, .int .i64 1, .int .i64 2, .int .i64 0, .int .i64 0, .int .i64 1, .int .i64 2, .int .i64 3, .int .i64 0, .int .i64 0, .int .i64 1]) (ok := fun _ => True) (okp := fun _ => True) ?hr ?hp (fun _ hk => hk) trivial (Below.refl _ _) (Nat.le_refl _) (by simp) ?_; (case hd => rfl); (case hg => rfl); (case hr => first | (go_simp; done) | (go_simp; rfl)); (case hp => exact (Reps.c5 (show Kd.M k31 _ _ _ (⟨0, 1, 0, 0, 1⟩ : S31) [.int .i64 0, .int .i64 1, .int .i64 0, .int .i64 0, .int .i64 1] from (cd_ _ _ _ (⟨0, 1, 0, 0, 1⟩ : S31) )) (Reps.c5 (show Kd.M k31 _ _ _ (⟨1, 2, 0, 0, 1⟩ : S31) [.int .i64 1, .int .i64 2, .int .i64 0, .int .i64 0, .int .i64 1] from (cd_ _ _ _ (⟨1, 2, 0, 0, 1⟩ : S31) )) (Reps.c5 (show Kd.M k31 _ _ _ (⟨2, 3, 0, 0, 1⟩ : S31) [.int .i64 2, .int .i64 3, .int .i64 0, .int .i64 0, .int .i64 1] from (cd_ _ _ _ (⟨2, 3, 0, 0, 1⟩ : S31) )) (Reps.none _ _))))); intro v133 w46 ho47 hb hg_ hnew_; clear hg_ hnew_; (first | rw [← Ny132.out] at ho47 | (simp only [Int.reduceToNat] at ho47; rw [← Ny132.out] at ho47)); have n0_ := Aside0.mk (Kd.N_elder' (by (with_reducible repeat (first | apply Kd.N_alloc | apply Kd.N_drewN | apply Kd.N_drew)); exact HO131.out) (Kd.R_base ho47) hb); have n1_ := Aside0.mk (Kd.R_lower ho47 (na_ (by repeat (first | (with_reducible first | exact HB.out | apply ba_ | apply aa_ | apply da_) | exact HB.out)))); have n2_ := Aside0.mk (ma_ (by repeat (first | (with_reducible first | exact HB.out | apply ba_ | apply aa_ | apply da_) | exact HB.out)) hb); clear HO131; clear HB; have HO131 := n0_; have HO134 := n1_; have HB := n2_; clear n0_ n1_ n2_; clear hb ho47; obtain ⟨Ao48, co48, eo48⟩ := Kd.N_slice HO131.out; subst eo48; obtain ⟨Ao49, co49, eo49⟩ := Kd.R_slice HO134.out; subst eo49) | ((with_reducible refine oa_ (f := 10) rfl ?_); refine fb_ (some 19) rfl rfl Tryz.func10 (by kernel_rfl) rfl #[.slice Ao48 y129.length co48, .slice Ao49 y132.length co49, .int .i64 3] rfl (by (try simp only [List.map_toArray, List.map_cons, List.map_nil]); first | done | rfl | (simp only [List.length_drop, List.length_take]; rfl)) ?_; (with_reducible refine (chart_Spans.calls _ _ y129 _ _ y132 3 t135 _ ?side1 ?side2 ?side3 ?side4 A1.out).mono ?_); (case side1 => repeat (first | exact (Kd.N_reads' HO131.out).2.2 | (with_reducible refine Kd.C_alloc ?_ _) | (with_reducible refine Kd.C_drewN ?_ _) | (with_reducible refine Kd.C_drew ?_))); (case side2 => exact (Kd.N_reads' HO131.out).2.1); (case side3 => repeat (first | exact (Kd.R_reads' HO134.out).2.2 | (with_reducible refine Kd.C_alloc ?_ _) | (with_reducible refine Kd.C_drewN ?_ _) | (with_reducible refine Kd.C_drew ?_))); (case side4 => exact (Kd.R_reads' HO134.out).2.1); rintro e w50 ⟨v136, rfl, ho0, hb⟩; refine ⟨_, rfl, ?_⟩; have n0_ := Aside0.mk (Kd.N_elder' (by (with_reducible repeat (first | apply Kd.N_alloc | apply Kd.N_drewN | apply Kd.N_drew)); exact HO131.out) (Kd.R_base ho0) hb); have n1_ := Aside0.mk (Kd.R_below (by (with_reducible repeat (first | apply Kd.R_alloc | apply Kd.R_drewN | apply Kd.R_drew)); exact HO134.out) hb); have n2_ := Aside0.mk (Kd.R_lower ho0 (na_ (by repeat (first | (with_reducible first | exact HB.out | apply ba_ | apply aa_ | apply da_) | exact HB.out)))); have n3_ := Aside0.mk (ma_ (by repeat (first | (with_reducible first | exact HB.out | apply ba_ | apply aa_ | apply da_) | exact HB.out)) hb); clear HO131; clear HO134; clear HB; have HO131 := n0_; have HO134 := n1_; have HO137 := n2_; have HB := n3_; clear n0_ n1_ n2_ n3_; (try clear hb); (try clear hb2); (try clear hk); (try clear hi); (try clear ho0)) | ((with_reducible refine oa_ (f := 10) rfl ?_); refine fb_ (some 20) rfl rfl Tryz.func10 (by kernel_rfl) rfl #[.slice none 0 0, .slice none 0 0, .int .i64 0] rfl (by (try simp only [List.map_toArray, List.map_cons, List.map_nil]); first | done | rfl | (simp only [List.length_drop, List.length_take]; rfl)) ?_; (refine (chart_Spans.calls _ _ ([] : List (S48)) _ _ ([] : List (S31)) 0 t138 _ ?side1 ?side2 ?side3 ?side4 A2.out).mono ?_); (case side1 => exact Kd.C_nil _ _); (case side2 => exact Nat.le_refl _); (case side3 => exact Kd.C_nil _ _); (case side4 => exact Nat.le_refl _); rintro e w51 ⟨v139, rfl, ho0, hb⟩; refine ⟨_, rfl, ?_⟩; have n0_ := Aside0.mk (Kd.N_elder' (by (with_reducible repeat (first | apply Kd.N_alloc | apply Kd.N_drewN | apply Kd.N_drew)); exact HO131.out) (Kd.R_base ho0) hb); have n1_ := Aside0.mk (Kd.R_below (by (with_reducible repeat (first | apply Kd.R_alloc | apply Kd.R_drewN | apply Kd.R_drew)); exact HO134.out) hb); have n2_ := Aside0.mk (Kd.R_elder' (by (with_reducible repeat (first | apply Kd.R_alloc | apply Kd.R_drewN | apply Kd.R_drew)); exact HO137.out) (Kd.R_base ho0) hb); have n3_ := Aside0.mk (Kd.R_lower (Kd.R_new' ho0 (Kd.R_lt (by (with_reducible repeat (first | apply Kd.R_alloc | apply Kd.R_drewN | apply Kd.R_drew)); exact HO137.out))) (na_ (by repeat (first | (with_reducible first | exact HB.out | apply ba_ | apply aa_ | apply da_) | exact HB.out)))); have n4_ := Aside0.mk (ma_ (by repeat (first | (with_reducible first | exact HB.out | apply ba_ | apply aa_ | apply da_) | exact HB.out)) hb); clear HO131; clear HO134; clear HO137; clear HB; have HO131 := n0_; have HO134 := n1_; have HO137 := n2_; have HO140 := n3_; have HB := n4_; clear n0_ n1_ n2_ n3_ n4_; (try clear hb); (try clear hb2); (try clear hk); (try clear hi); (try clear ho0); obtain ⟨Ao52, co52, eo52⟩ := Kd.R_slice HO140.out; subst eo52; obtain ⟨Ao53, co53, eo53⟩ := Kd.R_slice HO137.out; subst eo53) | (go_at_call 12; (with_reducible refine (chart_Count.calls _ _ y129 _ _ y132 0 0 3 100 t141 _ ?side1 ?side2 ?side3 ?side4 A5.out).mono ?_); (case side1 => repeat (first | exact (Kd.N_reads' HO131.out).2.2 | (with_reducible refine Kd.C_alloc ?_ _) | (with_reducible refine Kd.C_drewN ?_ _) | (with_reducible refine Kd.C_drew ?_))); (case side2 => exact (Kd.N_reads' HO131.out).2.1); (case side3 => repeat (first | exact (Kd.R_reads' HO134.out).2.2 | (with_reducible refine Kd.C_alloc ?_ _) | (with_reducible refine Kd.C_drewN ?_ _) | (with_reducible refine Kd.C_drew ?_))); (case side4 => exact (Kd.R_reads' HO134.out).2.1); rintro e w54 ⟨rfl, hb⟩; have n0_ := Aside0.mk (Kd.N_below (by (with_reducible repeat (first | apply Kd.N_alloc | apply Kd.N_drewN | apply Kd.N_drew)); exact HO131.out) hb); have n1_ := Aside0.mk (Kd.R_below (by (with_reducible repeat (first | apply Kd.R_alloc | apply Kd.R_drewN | apply Kd.R_drew)); exact HO134.out) hb); have n2_ := Aside0.mk (Kd.R_below (by (with_reducible repeat (first | apply Kd.R_alloc | apply Kd.R_drewN | apply Kd.R_drew)); exact HO137.out) hb); have n3_ := Aside0.mk (Kd.R_below (by (with_reducible repeat (first | apply Kd.R_alloc | apply Kd.R_drewN | apply Kd.R_drew)); exact HO140.out) hb); have n4_ := Aside0.mk (ma_ (by repeat (first | (with_reducible first | exact HB.out | apply ba_ | apply aa_ | apply da_) | exact HB.out)) hb); clear HO131; clear HO134; clear HO137; clear HO140; clear HB; have HO131 := n0_; have HO134 := n1_; have HO137 := n2_; have HO140 := n3_; have HB := n4_; clear n0_ n1_ n2_ n3_ n4_; (try clear hb); (try clear hb2); (try clear hk); (try clear hi)))
   go_ret
   exact ⟨by first | rfl | (simp [ta_, sa_] <;> rfl) | (simp [*, ta_, sa_] <;> rfl), by repeat (first | (with_reducible first | exact HB.out | apply ba_ | apply aa_ | apply da_) | exact HB.out)⟩
  rw [if_neg c4] at H
  have c4b0 : ((t135.length : Int) == 6) = false := beq_eq_false_iff_ne.mpr c4
  have c4b1 : ((t135.length : Int) != 6) = true := bne_iff_ne.mpr c4
  obtain rfl := Option.some.inj H
  go_enter Tryz.func5, Tryz.ntmps5
  go_wp2_with (first | ((with_reducible refine gb_ (N := 4) rfl ?_); (try (refine wa_ (by rfl) ?_; dsimp only)); refine Kd.R_lit (Kd.int .i64) _ 3 ?hg (N := 4) ?hd (xs := ([(-1)] : List Int)) (inner := [.int .i64 (-1)]) (ok := fun _ => True) (okp := fun _ => True) ?hr ?hp (fun _ hk => hk) trivial (Below.refl _ _) (Nat.le_refl _) (by simp) ?_; (case hd => rfl); (case hg => rfl); (case hr => first | (go_simp; done) | (go_simp; rfl)); (case hp => exact (Reps.one (show Kd.M (Kd.int .i64) _ _ _ (-1) [.int .i64 (-1)] from rfl) (Reps.none _ _))); intro v118 w55 ho56 hb hg_ hnew_; clear hg_ hnew_; (first | rw [← Ny117.out] at ho56 | (simp only [Int.reduceToNat] at ho56; rw [← Ny117.out] at ho56)); have n0_ := Aside0.mk (Kd.R_lower ho56 (na_ (by repeat (first | (with_reducible first | exact HB.out | apply ba_ | apply aa_ | apply da_) | exact HB.out)))); have n1_ := Aside0.mk (ma_ (by repeat (first | (with_reducible first | exact HB.out | apply ba_ | apply aa_ | apply da_) | exact HB.out)) hb); clear HB; have HO119 := n0_; have HB := n1_; clear n0_ n1_; clear hb ho56) | ((with_reducible refine gb_ (N := 5) rfl ?_); (try (refine wa_ (by rfl) ?_; dsimp only)); refine Kd.R_lit (Kd.int .i64) _ 3 ?hg (N := 5) ?hd (xs := ([0] : List Int)) (inner := [.int .i64 0]) (ok := fun _ => True) (okp := fun _ => True) ?hr ?hp (fun _ hk => hk) trivial (Below.refl _ _) (Nat.le_refl _) (by simp) ?_; (case hd => rfl); (case hg => rfl); (case hr => first | (go_simp; done) | (go_simp; rfl)); (case hp => exact (Reps.one (show Kd.M (Kd.int .i64) _ _ _ 0 [.int .i64 0] from rfl) (Reps.none _ _))); intro v121 w57 ho58 hb hg_ hnew_; clear hg_ hnew_; (first | rw [← Ny120.out] at ho58 | (simp only [Int.reduceToNat] at ho58; rw [← Ny120.out] at ho58)); have n0_ := Aside0.mk (Kd.R_elder' (by (with_reducible repeat (first | apply Kd.R_alloc | apply Kd.R_drewN | apply Kd.R_drew)); exact HO119.out) (Kd.R_base ho58) hb); have n1_ := Aside0.mk (Kd.R_lower (Kd.R_new' ho58 (Kd.R_lt (by (with_reducible repeat (first | apply Kd.R_alloc | apply Kd.R_drewN | apply Kd.R_drew)); exact HO119.out))) (na_ (by repeat (first | (with_reducible first | exact HB.out | apply ba_ | apply aa_ | apply da_) | exact HB.out)))); have n2_ := Aside0.mk (ma_ (by repeat (first | (with_reducible first | exact HB.out | apply ba_ | apply aa_ | apply da_) | exact HB.out)) hb); clear HO119; clear HB; have HO119 := n0_; have HO122 := n1_; have HB := n2_; clear n0_ n1_ n2_; clear hb ho58; obtain ⟨Ao59, co59, eo59⟩ := Kd.R_slice HO122.out; subst eo59; obtain ⟨Ao60, co60, eo60⟩ := Kd.R_slice HO119.out; subst eo60) | ((with_reducible refine gb_ (N := 8) rfl ?_); (try (refine wa_ (by rfl) ?_; dsimp only)); refine Kd.R_lit (Kd.int .i64) _ 3 ?hg (N := 8) ?hd (xs := ([0, 0] : List Int)) (inner := [.int .i64 0, .int .i64 0]) (ok := fun _ => True) (okp := fun _ => True) ?hr ?hp (fun _ hk => hk) trivial (Below.refl _ _) (Nat.le_refl _) (by simp) ?_; (case hd => rfl); (case hg => rfl); (case hr => first | (go_simp; done) | (go_simp; rfl)); (case hp => exact (Reps.one (show Kd.M (Kd.int .i64) _ _ _ 0 [.int .i64 0] from rfl) (Reps.one (show Kd.M (Kd.int .i64) _ _ _ 0 [.int .i64 0] from rfl) (Reps.none _ _)))); intro v124 w61 ho62 hb hg_ hnew_; clear hg_ hnew_; (first | rw [← Ny123.out] at ho62 | (simp only [Int.reduceToNat] at ho62; rw [← Ny123.out] at ho62)); have n0_ := Aside0.mk (Kd.R_elder' (by (with_reducible repeat (first | apply Kd.R_alloc | apply Kd.R_drewN | apply Kd.R_drew)); exact HO119.out) (Kd.R_base ho62) hb); have n1_ := Aside0.mk (Kd.R_elder' (by (with_reducible repeat (first | apply Kd.R_alloc | apply Kd.R_drewN | apply Kd.R_drew)); exact HO122.out) (Kd.R_base ho62) hb); have n2_ := Aside0.mk (Kd.R_lower (Kd.R_new' (Kd.R_new' ho62 (Kd.R_lt (by (with_reducible repeat (first | apply Kd.R_alloc | apply Kd.R_drewN | apply Kd.R_drew)); exact HO119.out))) (Kd.R_lt (by (with_reducible repeat (first | apply Kd.R_alloc | apply Kd.R_drewN | apply Kd.R_drew)); exact HO122.out))) (na_ (by repeat (first | (with_reducible first | exact HB.out | apply ba_ | apply aa_ | apply da_) | exact HB.out)))); have n3_ := Aside0.mk (ma_ (by repeat (first | (with_reducible first | exact HB.out | apply ba_ | apply aa_ | apply da_) | exact HB.out)) hb); clear HO119; clear HO122; clear HB; have HO119 := n0_; have HO122 := n1_; have HO125 := n2_; have HB := n3_; clear n0_ n1_ n2_ n3_; clear hb ho62) | ((with_reducible refine gb_ (N := 9) rfl ?_); (try (refine wa_ (by rfl) ?_; dsimp only)); refine Kd.R_lit (Kd.int .i64) _ 3 ?hg (N := 9) ?hd (xs := ([0] : List Int)) (inner := [.int .i64 0]) (ok := fun _ => True) (okp := fun _ => True) ?hr ?hp (fun _ hk => hk) trivial (Below.refl _ _) (Nat.le_refl _) (by simp) ?_; (case hd => rfl); (case hg => rfl); (case hr => first | (go_simp; done) | (go_simp; rfl)); (case hp => exact (Reps.one (show Kd.M (Kd.int .i64) _ _ _ 0 [.int .i64 0] from rfl) (Reps.none _ _))); intro v127 w63 ho64 hb hg_ hnew_; clear hg_ hnew_; (first | rw [← Ny126.out] at ho64 | (simp only [Int.reduceToNat] at ho64; rw [← Ny126.out] at ho64)); have n0_ := Aside0.mk (Kd.R_elder' (by (with_reducible repeat (first | apply Kd.R_alloc | apply Kd.R_drewN | apply Kd.R_drew)); exact HO119.out) (Kd.R_base ho64) hb); have n1_ := Aside0.mk (Kd.R_elder' (by (with_reducible repeat (first | apply Kd.R_alloc | apply Kd.R_drewN | apply Kd.R_drew)); exact HO122.out) (Kd.R_base ho64) hb); have n2_ := Aside0.mk (Kd.R_elder' (by (with_reducible repeat (first | apply Kd.R_alloc | apply Kd.R_drewN | apply Kd.R_drew)); exact HO125.out) (Kd.R_base ho64) hb); have n3_ := Aside0.mk (Kd.R_lower (Kd.R_new' (Kd.R_new' (Kd.R_new' ho64 (Kd.R_lt (by (with_reducible repeat (first | apply Kd.R_alloc | apply Kd.R_drewN | apply Kd.R_drew)); exact HO119.out))) (Kd.R_lt (by (with_reducible repeat (first | apply Kd.R_alloc | apply Kd.R_drewN | apply Kd.R_drew)); exact HO122.out))) (Kd.R_lt (by (with_reducible repeat (first | apply Kd.R_alloc | apply Kd.R_drewN | apply Kd.R_drew)); exact HO125.out))) (na_ (by repeat (first | (with_reducible first | exact HB.out | apply ba_ | apply aa_ | apply da_) | exact HB.out)))); have n4_ := Aside0.mk (ma_ (by repeat (first | (with_reducible first | exact HB.out | apply ba_ | apply aa_ | apply da_) | exact HB.out)) hb); clear HO119; clear HO122; clear HO125; clear HB; have HO119 := n0_; have HO122 := n1_; have HO125 := n2_; have HO128 := n3_; have HB := n4_; clear n0_ n1_ n2_ n3_ n4_; clear hb ho64; obtain ⟨Ao65, co65, eo65⟩ := Kd.R_slice HO128.out; subst eo65; obtain ⟨Ao66, co66, eo66⟩ := Kd.R_slice HO125.out; subst eo66) | ((with_reducible refine gb_ (N := 12) rfl ?_); (try (refine wa_ (by rfl) ?_; dsimp only)); refine Kd.N_lit k48 _ 48 ?hg (N' := 12) ?hd (xs := ([(⟨0, y117, (⟨8, y120⟩ : S46), 0⟩ : S48), (⟨0, y123, (⟨0, y126⟩ : S46), 0⟩ : S48)] : List (S48))) (inner := [.int .i64 0, .slice Ao60 y117.length co60, .int .i64 8, .slice Ao59 y120.length co59, .int .i64 0, .int .i64 0, .slice Ao66 y123.length co66, .int .i64 0, .slice Ao65 y126.length co65, .int .i64 0]) (ok := (fun _ => True)) (okp := (fun _ => True)) ?hr ?hp (fun _ hk => hk) ((show ∀ k_, w63.heap.size ≤ k_ → (fun _ => True) k_ from fun k_ hk => trivial) _ (Nat.le_refl _)) (Below.refl _ _) (Nat.le_refl _) (by simp) ?_; (case hd => rfl); (case hg => rfl); (case hr => first | (go_simp; done) | (go_simp; rfl)); (case hp => exact (Reps.c5 (show Kd.FK k48 _ _ (⟨0, y117, (⟨8, y120⟩ : S46), 0⟩ : S48) [.int .i64 0, .slice Ao60 y117.length co60, .int .i64 8, .slice Ao59 y120.length co59, .int .i64 0] from (ze_ _ _ (⟨0, y117, (⟨8, y120⟩ : S46), 0⟩ : S48) (Kd.R_reads' (Kd.R_mono (ok' := (fun _ => True)) (HO119.out) (fun k_ hk => trivial))).2.1 (Kd.R_F (Kd.R_mono (ok' := (fun _ => True)) (HO119.out) (fun k_ hk => trivial))) (Kd.R_reads' (Kd.R_mono (ok' := (fun _ => True)) (HO122.out) (fun k_ hk => trivial))).2.1 (Kd.R_F (Kd.R_mono (ok' := (fun _ => True)) (HO122.out) (fun k_ hk => trivial))))) (Reps.c5 (show Kd.FK k48 _ _ (⟨0, y123, (⟨0, y126⟩ : S46), 0⟩ : S48) [.int .i64 0, .slice Ao66 y123.length co66, .int .i64 0, .slice Ao65 y126.length co65, .int .i64 0] from (ze_ _ _ (⟨0, y123, (⟨0, y126⟩ : S46), 0⟩ : S48) (Kd.R_reads' (Kd.R_mono (ok' := (fun _ => True)) (HO125.out) (fun k_ hk => trivial))).2.1 (Kd.R_F (Kd.R_mono (ok' := (fun _ => True)) (HO125.out) (fun k_ hk => trivial))) (Kd.R_reads' (Kd.R_mono (ok' := (fun _ => True)) (HO128.out) (fun k_ hk => trivial))).2.1 (Kd.R_F (Kd.R_mono (ok' := (fun _ => True)) (HO128.out) (fun k_ hk => trivial))))) (Reps.none _ _)))); intro v130 w67 ho68 hb hg_ hnew_; clear hg_ hnew_; (first | rw [← Ny129.out] at ho68 | (simp only [Int.reduceToNat] at ho68; rw [← Ny129.out] at ho68)); have n0_ := Aside0.mk (Kd.N_lower ho68 (na_ (by repeat (first | (with_reducible first | exact HB.out | apply ba_ | apply aa_ | apply da_) | exact HB.out)))); have n1_ := Aside0.mk (ma_ (by repeat (first | (with_reducible first | exact HB.out | apply ba_ | apply aa_ | apply da_) | exact HB.out)) hb); clear HB; clear HO119; clear HO122; clear HO125; clear HO128; have HO131 := n0_; have HB := n1_; clear n0_ n1_; clear hb ho68) | ((with_reducible refine gb_ (N := 16) rfl ?_); (try (refine wa_ (by rfl) ?_; dsimp only)); refine Kd.R_lit k31 _ 31 ?hg (N := 16) ?hd (xs := ([(⟨0, 1, 0, 0, 1⟩ : S31), (⟨1, 2, 0, 0, 1⟩ : S31), (⟨2, 3, 0, 0, 1⟩ : S31)] : List (S31))) (inner := [.int .i64 0, .int .i64 1, .int .i64 0, .int .i64 0, .int .i64 1, .int .i64 1, .int .i64 2, .int .i64 0, .int .i64 0, .int .i64 1, .int .i64 2, .int .i64 3, .int .i64 0, .int .i64 0, .int .i64 1]) (ok := fun _ => True) (okp := fun _ => True) ?hr ?hp (fun _ hk => hk) trivial (Below.refl _ _) (Nat.le_refl _) (by simp) ?_; (case hd => rfl); (case hg => rfl); (case hr => first | (go_simp; done) | (go_simp; rfl)); (case hp => exact (Reps.c5 (show Kd.M k31 _ _ _ (⟨0, 1, 0, 0, 1⟩ : S31) [.int .i64 0, .int .i64 1, .int .i64 0, .int .i64 0, .int .i64 1] from (cd_ _ _ _ (⟨0, 1, 0, 0, 1⟩ : S31) )) (Reps.c5 (show Kd.M k31 _ _ _ (⟨1, 2, 0, 0, 1⟩ : S31) [.int .i64 1, .int .i64 2, .int .i64 0, .int .i64 0, .int .i64 1] from (cd_ _ _ _ (⟨1, 2, 0, 0, 1⟩ : S31) )) (Reps.c5 (show Kd.M k31 _ _ _ (⟨2, 3, 0, 0, 1⟩ : S31) [.int .i64 2, .int .i64 3, .int .i64 0, .int .i64 0, .int .i64 1] from (cd_ _ _ _ (⟨2, 3, 0, 0, 1⟩ : S31) )) (Reps.none _ _))))); intro v133 w69 ho70 hb hg_ hnew_; clear hg_ hnew_; (first | rw [← Ny132.out] at ho70 | (simp only [Int.reduceToNat] at ho70; rw [← Ny132.out] at ho70)); have n0_ := Aside0.mk (Kd.N_elder' (by (with_reducible repeat (first | apply Kd.N_alloc | apply Kd.N_drewN | apply Kd.N_drew)); exact HO131.out) (Kd.R_base ho70) hb); have n1_ := Aside0.mk (Kd.R_lower ho70 (na_ (by repeat (first | (with_reducible first | exact HB.out | apply ba_ | apply aa_ | apply da_) | exact HB.out)))); have n2_ := Aside0.mk (ma_ (by repeat (first | (with_reducible first | exact HB.out | apply ba_ | apply aa_ | apply da_) | exact HB.out)) hb); clear HO131; clear HB; have HO131 := n0_; have HO134 := n1_; have HB := n2_; clear n0_ n1_ n2_; clear hb ho70; obtain ⟨Ao71, co71, eo71⟩ := Kd.N_slice HO131.out; subst eo71; obtain ⟨Ao72, co72, eo72⟩ := Kd.R_slice HO134.out; subst eo72) | ((with_reducible refine oa_ (f := 10) rfl ?_); refine fb_ (some 19) rfl rfl Tryz.func10 (by kernel_rfl) rfl #[.slice Ao71 y129.length co71, .slice Ao72 y132.length co72, .int .i64 3] rfl (by (try simp only [List.map_toArray, List.map_cons, List.map_nil]); first | done | rfl | (simp only [List.length_drop, List.length_take]; rfl)) ?_; (with_reducible refine (chart_Spans.calls _ _ y129 _ _ y132 3 t135 _ ?side1 ?side2 ?side3 ?side4 A1.out).mono ?_); (case side1 => repeat (first | exact (Kd.N_reads' HO131.out).2.2 | (with_reducible refine Kd.C_alloc ?_ _) | (with_reducible refine Kd.C_drewN ?_ _) | (with_reducible refine Kd.C_drew ?_))); (case side2 => exact (Kd.N_reads' HO131.out).2.1); (case side3 => repeat (first | exact (Kd.R_reads' HO134.out).2.2 | (with_reducible refine Kd.C_alloc ?_ _) | (with_reducible refine Kd.C_drewN ?_ _) | (with_reducible refine Kd.C_drew ?_))); (case side4 => exact (Kd.R_reads' HO134.out).2.1); rintro e w73 ⟨v136, rfl, ho0, hb⟩; refine ⟨_, rfl, ?_⟩; have n0_ := Aside0.mk (Kd.N_elder' (by (with_reducible repeat (first | apply Kd.N_alloc | apply Kd.N_drewN | apply Kd.N_drew)); exact HO131.out) (Kd.R_base ho0) hb); have n1_ := Aside0.mk (Kd.R_below (by (with_reducible repeat (first | apply Kd.R_alloc | apply Kd.R_drewN | apply Kd.R_drew)); exact HO134.out) hb); have n2_ := Aside0.mk (Kd.R_lower ho0 (na_ (by repeat (first | (with_reducible first | exact HB.out | apply ba_ | apply aa_ | apply da_) | exact HB.out)))); have n3_ := Aside0.mk (ma_ (by repeat (first | (with_reducible first | exact HB.out | apply ba_ | apply aa_ | apply da_) | exact HB.out)) hb); clear HO131; clear HO134; clear HB; have HO131 := n0_; have HO134 := n1_; have HO137 := n2_; have HB := n3_; clear n0_ n1_ n2_ n3_; (try clear hb); (try clear hb2); (try clear hk); (try clear hi); (try clear ho0)) | ((with_reducible refine oa_ (f := 10) rfl ?_); refine fb_ (some 20) rfl rfl Tryz.func10 (by kernel_rfl) rfl #[.slice none 0 0, .slice none 0 0, .int .i64 0] rfl (by (try simp only [List.map_toArray, List.map_cons, List.map_nil]); first | done | rfl | (simp only [List.length_drop, List.length_take]; rfl)) ?_; (refine (chart_Spans.calls _ _ ([] : List (S48)) _ _ ([] : List (S31)) 0 t138 _ ?side1 ?side2 ?side3 ?side4 A2.out).mono ?_); (case side1 => exact Kd.C_nil _ _); (case side2 => exact Nat.le_refl _); (case side3 => exact Kd.C_nil _ _); (case side4 => exact Nat.le_refl _); rintro e w74 ⟨v139, rfl, ho0, hb⟩; refine ⟨_, rfl, ?_⟩; have n0_ := Aside0.mk (Kd.N_elder' (by (with_reducible repeat (first | apply Kd.N_alloc | apply Kd.N_drewN | apply Kd.N_drew)); exact HO131.out) (Kd.R_base ho0) hb); have n1_ := Aside0.mk (Kd.R_below (by (with_reducible repeat (first | apply Kd.R_alloc | apply Kd.R_drewN | apply Kd.R_drew)); exact HO134.out) hb); have n2_ := Aside0.mk (Kd.R_elder' (by (with_reducible repeat (first | apply Kd.R_alloc | apply Kd.R_drewN | apply Kd.R_drew)); exact HO137.out) (Kd.R_base ho0) hb); have n3_ := Aside0.mk (Kd.R_lower (Kd.R_new' ho0 (Kd.R_lt (by (with_reducible repeat (first | apply Kd.R_alloc | apply Kd.R_drewN | apply Kd.R_drew)); exact HO137.out))) (na_ (by repeat (first | (with_reducible first | exact HB.out | apply ba_ | apply aa_ | apply da_) | exact HB.out)))); have n4_ := Aside0.mk (ma_ (by repeat (first | (with_reducible first | exact HB.out | apply ba_ | apply aa_ | apply da_) | exact HB.out)) hb); clear HO131; clear HO134; clear HO137; clear HB; have HO131 := n0_; have HO134 := n1_; have HO137 := n2_; have HO140 := n3_; have HB := n4_; clear n0_ n1_ n2_ n3_ n4_; (try clear hb); (try clear hb2); (try clear hk); (try clear hi); (try clear ho0); obtain ⟨Ao75, co75, eo75⟩ := Kd.R_slice HO140.out; subst eo75; obtain ⟨Ao76, co76, eo76⟩ := Kd.R_slice HO137.out; subst eo76))
  go_ret
  exact ⟨by first | rfl | (simp [ta_, sa_] <;> rfl) | (simp [*, ta_, sa_] <;> rfl), by repeat (first | (with_reducible first | exact HB.out | apply ba_ | apply aa_ | apply da_) | exact HB.out)⟩
 rw [if_neg c3] at H
 have c3b0 : ((t138.length : Int) == 0) = false := beq_eq_false_iff_ne.mpr c3
 have c3b1 : ((t138.length : Int) != 0) = true := bne_iff_ne.mpr c3
 have c3b2 : ¬ (t138 = []) := fun h_ => c3 (by rw [h_]; rfl)
 obtain rfl := Option.some.inj H
 go_enter Tryz.func5, Tryz.ntmps5
 go_wp2_with (first | ((with_reducible refine gb_ (N := 4) rfl ?_); (try (refine wa_ (by rfl) ?_; dsimp only)); refine Kd.R_lit (Kd.int .i64) _ 3 ?hg (N := 4) ?hd (xs := ([(-1)] : List Int)) (inner := [.int .i64 (-1)]) (ok := fun _ => True) (okp := fun _ => True) ?hr ?hp (fun _ hk => hk) trivial (Below.refl _ _) (Nat.le_refl _) (by simp) ?_; (case hd => rfl); (case hg => rfl); (case hr => first | (go_simp; done) | (go_simp; rfl)); (case hp => exact (Reps.one (show Kd.M (Kd.int .i64) _ _ _ (-1) [.int .i64 (-1)] from rfl) (Reps.none _ _))); intro v118 w77 ho78 hb hg_ hnew_; clear hg_ hnew_; (first | rw [← Ny117.out] at ho78 | (simp only [Int.reduceToNat] at ho78; rw [← Ny117.out] at ho78)); have n0_ := Aside0.mk (Kd.R_lower ho78 (na_ (by repeat (first | (with_reducible first | exact HB.out | apply ba_ | apply aa_ | apply da_) | exact HB.out)))); have n1_ := Aside0.mk (ma_ (by repeat (first | (with_reducible first | exact HB.out | apply ba_ | apply aa_ | apply da_) | exact HB.out)) hb); clear HB; have HO119 := n0_; have HB := n1_; clear n0_ n1_; clear hb ho78) | ((with_reducible refine gb_ (N := 5) rfl ?_); (try (refine wa_ (by rfl) ?_; dsimp only)); refine Kd.R_lit (Kd.int .i64) _ 3 ?hg (N := 5) ?hd (xs := ([0] : List Int)) (inner := [.int .i64 0]) (ok := fun _ => True) (okp := fun _ => True) ?hr ?hp (fun _ hk => hk) trivial (Below.refl _ _) (Nat.le_refl _) (by simp) ?_; (case hd => rfl); (case hg => rfl); (case hr => first | (go_simp; done) | (go_simp; rfl)); (case hp => exact (Reps.one (show Kd.M (Kd.int .i64) _ _ _ 0 [.int .i64 0] from rfl) (Reps.none _ _))); intro v121 w79 ho80 hb hg_ hnew_; clear hg_ hnew_; (first | rw [← Ny120.out] at ho80 | (simp only [Int.reduceToNat] at ho80; rw [← Ny120.out] at ho80)); have n0_ := Aside0.mk (Kd.R_elder' (by (with_reducible repeat (first | apply Kd.R_alloc | apply Kd.R_drewN | apply Kd.R_drew)); exact HO119.out) (Kd.R_base ho80) hb); have n1_ := Aside0.mk (Kd.R_lower (Kd.R_new' ho80 (Kd.R_lt (by (with_reducible repeat (first | apply Kd.R_alloc | apply Kd.R_drewN | apply Kd.R_drew)); exact HO119.out))) (na_ (by repeat (first | (with_reducible first | exact HB.out | apply ba_ | apply aa_ | apply da_) | exact HB.out)))); have n2_ := Aside0.mk (ma_ (by repeat (first | (with_reducible first | exact HB.out | apply ba_ | apply aa_ | apply da_) | exact HB.out)) hb); clear HO119; clear HB; have HO119 := n0_; have HO122 := n1_; have HB := n2_; clear n0_ n1_ n2_; clear hb ho80; obtain ⟨Ao81, co81, eo81⟩ := Kd.R_slice HO122.out; subst eo81; obtain ⟨Ao82, co82, eo82⟩ := Kd.R_slice HO119.out; subst eo82) | ((with_reducible refine gb_ (N := 8) rfl ?_); (try (refine wa_ (by rfl) ?_; dsimp only)); refine Kd.R_lit (Kd.int .i64) _ 3 ?hg (N := 8) ?hd (xs := ([0, 0] : List Int)) (inner := [.int .i64 0, .int .i64 0]) (ok := fun _ => True) (okp := fun _ => True) ?hr ?hp (fun _ hk => hk) trivial (Below.refl _ _) (Nat.le_refl _) (by simp) ?_; (case hd => rfl); (case hg => rfl); (case hr => first | (go_simp; done) | (go_simp; rfl)); (case hp => exact (Reps.one (show Kd.M (Kd.int .i64) _ _ _ 0 [.int .i64 0] from rfl) (Reps.one (show Kd.M (Kd.int .i64) _ _ _ 0 [.int .i64 0] from rfl) (Reps.none _ _)))); intro v124 w83 ho84 hb hg_ hnew_; clear hg_ hnew_; (first | rw [← Ny123.out] at ho84 | (simp only [Int.reduceToNat] at ho84; rw [← Ny123.out] at ho84)); have n0_ := Aside0.mk (Kd.R_elder' (by (with_reducible repeat (first | apply Kd.R_alloc | apply Kd.R_drewN | apply Kd.R_drew)); exact HO119.out) (Kd.R_base ho84) hb); have n1_ := Aside0.mk (Kd.R_elder' (by (with_reducible repeat (first | apply Kd.R_alloc | apply Kd.R_drewN | apply Kd.R_drew)); exact HO122.out) (Kd.R_base ho84) hb); have n2_ := Aside0.mk (Kd.R_lower (Kd.R_new' (Kd.R_new' ho84 (Kd.R_lt (by (with_reducible repeat (first | apply Kd.R_alloc | apply Kd.R_drewN | apply Kd.R_drew)); exact HO119.out))) (Kd.R_lt (by (with_reducible repeat (first | apply Kd.R_alloc | apply Kd.R_drewN | apply Kd.R_drew)); exact HO122.out))) (na_ (by repeat (first | (with_reducible first | exact HB.out | apply ba_ | apply aa_ | apply da_) | exact HB.out)))); have n3_ := Aside0.mk (ma_ (by repeat (first | (with_reducible first | exact HB.out | apply ba_ | apply aa_ | apply da_) | exact HB.out)) hb); clear HO119; clear HO122; clear HB; have HO119 := n0_; have HO122 := n1_; have HO125 := n2_; have HB := n3_; clear n0_ n1_ n2_ n3_; clear hb ho84) | ((with_reducible refine gb_ (N := 9) rfl ?_); (try (refine wa_ (by rfl) ?_; dsimp only)); refine Kd.R_lit (Kd.int .i64) _ 3 ?hg (N := 9) ?hd (xs := ([0] : List Int)) (inner := [.int .i64 0]) (ok := fun _ => True) (okp := fun _ => True) ?hr ?hp (fun _ hk => hk) trivial (Below.refl _ _) (Nat.le_refl _) (by simp) ?_; (case hd => rfl); (case hg => rfl); (case hr => first | (go_simp; done) | (go_simp; rfl)); (case hp => exact (Reps.one (show Kd.M (Kd.int .i64) _ _ _ 0 [.int .i64 0] from rfl) (Reps.none _ _))); intro v127 w85 ho86 hb hg_ hnew_; clear hg_ hnew_; (first | rw [← Ny126.out] at ho86 | (simp only [Int.reduceToNat] at ho86; rw [← Ny126.out] at ho86)); have n0_ := Aside0.mk (Kd.R_elder' (by (with_reducible repeat (first | apply Kd.R_alloc | apply Kd.R_drewN | apply Kd.R_drew)); exact HO119.out) (Kd.R_base ho86) hb); have n1_ := Aside0.mk (Kd.R_elder' (by (with_reducible repeat (first | apply Kd.R_alloc | apply Kd.R_drewN | apply Kd.R_drew)); exact HO122.out) (Kd.R_base ho86) hb); have n2_ := Aside0.mk (Kd.R_elder' (by (with_reducible repeat (first | apply Kd.R_alloc | apply Kd.R_drewN | apply Kd.R_drew)); exact HO125.out) (Kd.R_base ho86) hb); have n3_ := Aside0.mk (Kd.R_lower (Kd.R_new' (Kd.R_new' (Kd.R_new' ho86 (Kd.R_lt (by (with_reducible repeat (first | apply Kd.R_alloc | apply Kd.R_drewN | apply Kd.R_drew)); exact HO119.out))) (Kd.R_lt (by (with_reducible repeat (first | apply Kd.R_alloc | apply Kd.R_drewN | apply Kd.R_drew)); exact HO122.out))) (Kd.R_lt (by (with_reducible repeat (first | apply Kd.R_alloc | apply Kd.R_drewN | apply Kd.R_drew)); exact HO125.out))) (na_ (by repeat (first | (with_reducible first | exact HB.out | apply ba_ | apply aa_ | apply da_) | exact HB.out)))); have n4_ := Aside0.mk (ma_ (by repeat (first | (with_reducible first | exact HB.out | apply ba_ | apply aa_ | apply da_) | exact HB.out)) hb); clear HO119; clear HO122; clear HO125; clear HB; have HO119 := n0_; have HO122 := n1_; have HO125 := n2_; have HO128 := n3_; have HB := n4_; clear n0_ n1_ n2_ n3_ n4_; clear hb ho86; obtain ⟨Ao87, co87, eo87⟩ := Kd.R_slice HO128.out; subst eo87; obtain ⟨Ao88, co88, eo88⟩ := Kd.R_slice HO125.out; subst eo88) | ((with_reducible refine gb_ (N := 12) rfl ?_); (try (refine wa_ (by rfl) ?_; dsimp only)); refine Kd.N_lit k48 _ 48 ?hg (N' := 12) ?hd (xs := ([(⟨0, y117, (⟨8, y120⟩ : S46), 0⟩ : S48), (⟨0, y123, (⟨0, y126⟩ : S46), 0⟩ : S48)] : List (S48))) (inner := [.int .i64 0, .slice Ao82 y117.length co82, .int .i64 8, .slice Ao81 y120.length co81, .int .i64 0, .int .i64 0, .slice Ao88 y123.length co88, .int .i64 0, .slice Ao87 y126.length co87, .int .i64 0]) (ok := (fun _ => True)) (okp := (fun _ => True)) ?hr ?hp (fun _ hk => hk) ((show ∀ k_, w85.heap.size ≤ k_ → (fun _ => True) k_ from fun k_ hk => trivial) _ (Nat.le_refl _)) (Below.refl _ _) (Nat.le_refl _) (by simp) ?_; (case hd => rfl); (case hg => rfl); (case hr => first | (go_simp; done) | (go_simp; rfl)); (case hp => exact (Reps.c5 (show Kd.FK k48 _ _ (⟨0, y117, (⟨8, y120⟩ : S46), 0⟩ : S48) [.int .i64 0, .slice Ao82 y117.length co82, .int .i64 8, .slice Ao81 y120.length co81, .int .i64 0] from (ze_ _ _ (⟨0, y117, (⟨8, y120⟩ : S46), 0⟩ : S48) (Kd.R_reads' (Kd.R_mono (ok' := (fun _ => True)) (HO119.out) (fun k_ hk => trivial))).2.1 (Kd.R_F (Kd.R_mono (ok' := (fun _ => True)) (HO119.out) (fun k_ hk => trivial))) (Kd.R_reads' (Kd.R_mono (ok' := (fun _ => True)) (HO122.out) (fun k_ hk => trivial))).2.1 (Kd.R_F (Kd.R_mono (ok' := (fun _ => True)) (HO122.out) (fun k_ hk => trivial))))) (Reps.c5 (show Kd.FK k48 _ _ (⟨0, y123, (⟨0, y126⟩ : S46), 0⟩ : S48) [.int .i64 0, .slice Ao88 y123.length co88, .int .i64 0, .slice Ao87 y126.length co87, .int .i64 0] from (ze_ _ _ (⟨0, y123, (⟨0, y126⟩ : S46), 0⟩ : S48) (Kd.R_reads' (Kd.R_mono (ok' := (fun _ => True)) (HO125.out) (fun k_ hk => trivial))).2.1 (Kd.R_F (Kd.R_mono (ok' := (fun _ => True)) (HO125.out) (fun k_ hk => trivial))) (Kd.R_reads' (Kd.R_mono (ok' := (fun _ => True)) (HO128.out) (fun k_ hk => trivial))).2.1 (Kd.R_F (Kd.R_mono (ok' := (fun _ => True)) (HO128.out) (fun k_ hk => trivial))))) (Reps.none _ _)))); intro v130 w89 ho90 hb hg_ hnew_; clear hg_ hnew_; (first | rw [← Ny129.out] at ho90 | (simp only [Int.reduceToNat] at ho90; rw [← Ny129.out] at ho90)); have n0_ := Aside0.mk (Kd.N_lower ho90 (na_ (by repeat (first | (with_reducible first | exact HB.out | apply ba_ | apply aa_ | apply da_) | exact HB.out)))); have n1_ := Aside0.mk (ma_ (by repeat (first | (with_reducible first | exact HB.out | apply ba_ | apply aa_ | apply da_) | exact HB.out)) hb); clear HB; clear HO119; clear HO122; clear HO125; clear HO128; have HO131 := n0_; have HB := n1_; clear n0_ n1_; clear hb ho90) | ((with_reducible refine gb_ (N := 16) rfl ?_); (try (refine wa_ (by rfl) ?_; dsimp only)); refine Kd.R_lit k31 _ 31 ?hg (N := 16) ?hd (xs := ([(⟨0, 1, 0, 0, 1⟩ : S31), (⟨1, 2, 0, 0, 1⟩ : S31), (⟨2, 3, 0, 0, 1⟩ : S31)] : List (S31))) (inner := [.int .i64 0, .int .i64 1, .int .i64 0, .int .i64 0, .int .i64 1, .int .i64 1, .int .i64 2, .int .i64 0, .int .i64 0, .int .i64 1, .int .i64 2, .int .i64 3, .int .i64 0, .int .i64 0, .int .i64 1]) (ok := fun _ => True) (okp := fun _ => True) ?hr ?hp (fun _ hk => hk) trivial (Below.refl _ _) (Nat.le_refl _) (by simp) ?_; (case hd => rfl); (case hg => rfl); (case hr => first | (go_simp; done) | (go_simp; rfl)); (case hp => exact (Reps.c5 (show Kd.M k31 _ _ _ (⟨0, 1, 0, 0, 1⟩ : S31) [.int .i64 0, .int .i64 1, .int .i64 0, .int .i64 0, .int .i64 1] from (cd_ _ _ _ (⟨0, 1, 0, 0, 1⟩ : S31) )) (Reps.c5 (show Kd.M k31 _ _ _ (⟨1, 2, 0, 0, 1⟩ : S31) [.int .i64 1, .int .i64 2, .int .i64 0, .int .i64 0, .int .i64 1] from (cd_ _ _ _ (⟨1, 2, 0, 0, 1⟩ : S31) )) (Reps.c5 (show Kd.M k31 _ _ _ (⟨2, 3, 0, 0, 1⟩ : S31) [.int .i64 2, .int .i64 3, .int .i64 0, .int .i64 0, .int .i64 1] from (cd_ _ _ _ (⟨2, 3, 0, 0, 1⟩ : S31) )) (Reps.none _ _))))); intro v133 w91 ho92 hb hg_ hnew_; clear hg_ hnew_; (first | rw [← Ny132.out] at ho92 | (simp only [Int.reduceToNat] at ho92; rw [← Ny132.out] at ho92)); have n0_ := Aside0.mk (Kd.N_elder' (by (with_reducible repeat (first | apply Kd.N_alloc | apply Kd.N_drewN | apply Kd.N_drew)); exact HO131.out) (Kd.R_base ho92) hb); have n1_ := Aside0.mk (Kd.R_lower ho92 (na_ (by repeat (first | (with_reducible first | exact HB.out | apply ba_ | apply aa_ | apply da_) | exact HB.out)))); have n2_ := Aside0.mk (ma_ (by repeat (first | (with_reducible first | exact HB.out | apply ba_ | apply aa_ | apply da_) | exact HB.out)) hb); clear HO131; clear HB; have HO131 := n0_; have HO134 := n1_; have HB := n2_; clear n0_ n1_ n2_; clear hb ho92; obtain ⟨Ao93, co93, eo93⟩ := Kd.N_slice HO131.out; subst eo93; obtain ⟨Ao94, co94, eo94⟩ := Kd.R_slice HO134.out; subst eo94) | ((with_reducible refine oa_ (f := 10) rfl ?_); refine fb_ (some 19) rfl rfl Tryz.func10 (by kernel_rfl) rfl #[.slice Ao93 y129.length co93, .slice Ao94 y132.length co94, .int .i64 3] rfl (by (try simp only [List.map_toArray, List.map_cons, List.map_nil]); first | done | rfl | (simp only [List.length_drop, List.length_take]; rfl)) ?_; (with_reducible refine (chart_Spans.calls _ _ y129 _ _ y132 3 t135 _ ?side1 ?side2 ?side3 ?side4 A1.out).mono ?_); (case side1 => repeat (first | exact (Kd.N_reads' HO131.out).2.2 | (with_reducible refine Kd.C_alloc ?_ _) | (with_reducible refine Kd.C_drewN ?_ _) | (with_reducible refine Kd.C_drew ?_))); (case side2 => exact (Kd.N_reads' HO131.out).2.1); (case side3 => repeat (first | exact (Kd.R_reads' HO134.out).2.2 | (with_reducible refine Kd.C_alloc ?_ _) | (with_reducible refine Kd.C_drewN ?_ _) | (with_reducible refine Kd.C_drew ?_))); (case side4 => exact (Kd.R_reads' HO134.out).2.1); rintro e w95 ⟨v136, rfl, ho0, hb⟩; refine ⟨_, rfl, ?_⟩; have n0_ := Aside0.mk (Kd.N_elder' (by (with_reducible repeat (first | apply Kd.N_alloc | apply Kd.N_drewN | apply Kd.N_drew)); exact HO131.out) (Kd.R_base ho0) hb); have n1_ := Aside0.mk (Kd.R_below (by (with_reducible repeat (first | apply Kd.R_alloc | apply Kd.R_drewN | apply Kd.R_drew)); exact HO134.out) hb); have n2_ := Aside0.mk (Kd.R_lower ho0 (na_ (by repeat (first | (with_reducible first | exact HB.out | apply ba_ | apply aa_ | apply da_) | exact HB.out)))); have n3_ := Aside0.mk (ma_ (by repeat (first | (with_reducible first | exact HB.out | apply ba_ | apply aa_ | apply da_) | exact HB.out)) hb); clear HO131; clear HO134; clear HB; have HO131 := n0_; have HO134 := n1_; have HO137 := n2_; have HB := n3_; clear n0_ n1_ n2_ n3_; (try clear hb); (try clear hb2); (try clear hk); (try clear hi); (try clear ho0)) | ((with_reducible refine oa_ (f := 10) rfl ?_); refine fb_ (some 20) rfl rfl Tryz.func10 (by kernel_rfl) rfl #[.slice none 0 0, .slice none 0 0, .int .i64 0] rfl (by (try simp only [List.map_toArray, List.map_cons, List.map_nil]); first | done | rfl | (simp only [List.length_drop, List.length_take]; rfl)) ?_; (refine (chart_Spans.calls _ _ ([] : List (S48)) _ _ ([] : List (S31)) 0 t138 _ ?side1 ?side2 ?side3 ?side4 A2.out).mono ?_); (case side1 => exact Kd.C_nil _ _); (case side2 => exact Nat.le_refl _); (case side3 => exact Kd.C_nil _ _); (case side4 => exact Nat.le_refl _); rintro e w96 ⟨v139, rfl, ho0, hb⟩; refine ⟨_, rfl, ?_⟩; have n0_ := Aside0.mk (Kd.N_elder' (by (with_reducible repeat (first | apply Kd.N_alloc | apply Kd.N_drewN | apply Kd.N_drew)); exact HO131.out) (Kd.R_base ho0) hb); have n1_ := Aside0.mk (Kd.R_below (by (with_reducible repeat (first | apply Kd.R_alloc | apply Kd.R_drewN | apply Kd.R_drew)); exact HO134.out) hb); have n2_ := Aside0.mk (Kd.R_elder' (by (with_reducible repeat (first | apply Kd.R_alloc | apply Kd.R_drewN | apply Kd.R_drew)); exact HO137.out) (Kd.R_base ho0) hb); have n3_ := Aside0.mk (Kd.R_lower (Kd.R_new' ho0 (Kd.R_lt (by (with_reducible repeat (first | apply Kd.R_alloc | apply Kd.R_drewN | apply Kd.R_drew)); exact HO137.out))) (na_ (by repeat (first | (with_reducible first | exact HB.out | apply ba_ | apply aa_ | apply da_) | exact HB.out)))); have n4_ := Aside0.mk (ma_ (by repeat (first | (with_reducible first | exact HB.out | apply ba_ | apply aa_ | apply da_) | exact HB.out)) hb); clear HO131; clear HO134; clear HO137; clear HB; have HO131 := n0_; have HO134 := n1_; have HO137 := n2_; have HO140 := n3_; have HB := n4_; clear n0_ n1_ n2_ n3_ n4_; (try clear hb); (try clear hb2); (try clear hk); (try clear hi); (try clear ho0); obtain ⟨Ao97, co97, eo97⟩ := Kd.R_slice HO140.out; subst eo97))
 go_ret
 exact ⟨by first | rfl | (simp [ta_, sa_] <;> rfl) | (simp [*, ta_, sa_] <;> rfl), by repeat (first | (with_reducible first | exact HB.out | apply ba_ | apply aa_ | apply da_) | exact HB.out)⟩
noncomputable def l4_Few.l0 : Nat → List (S50) → Int → Option (Bool)
 | 0, _, _ => none
 | k + 1, x0, x3 => if x3 < (x0.length : Int) then (if 0 ≤ x3 then (if (((ua_ x0 x3).f3).length : Int) > 20 then (some false) else (if (((ua_ x0 x3).f4).length : Int) > 20 then (some false) else (l4_Few.l0 k x0 (wrap64 (x3 + 1))))) else (none)) else (some (decide ((x0.length : Int) ≤ 80)))
noncomputable def l4_Few.f (k : Nat) (l0 : List (S50)) : Option (Bool) := l4_Few.l0 k l0 0
set_option maxHeartbeats 8000000 in
set_option maxRecDepth 100000 in
theorem l4_Few.calls (k : Nat) (A0 : Option Addr) (c0 : Nat) (l0 : List (S50)) (r : Bool) (w : World) (hr0 : Kd.C k50 w A0 l0.length l0) (hc0 : l0.length ≤ c0) (h : l4_Few.f k l0 = some r) :
  Calls Tryz.prog 6 #[.slice A0 l0.length c0] w fun e w' => e = .returned (.bool r) ∧ Drawn0 w w' := by
 have HR0 := Aside0.mk hr0
 have HC0 := Aside0.mk hc0
 clear hr0 hc0
 have H : (l4_Few.l0 k l0 0) = some r := h
 clear h
 have H' := Aside0.mk H
 clear H
 go_enter Tryz.func6, Tryz.ntmps6
 go_wp2
 go_loopg [3] k (fun kq v3 w' => ∃ (x3_1 : Int), v3 = .int .i64 x3_1 ∧ Aside0 (l4_Few.l0 kq l0 x3_1 = some r) ∧ Aside0 (kq ≤ k) ∧ Drawn0 w w')
 case atStart => exact ⟨(0), (by first | rfl | (simp; done) | (simp [*]; done)), H', ⟨Nat.le_refl _⟩, by repeat (first | exact Drawn0.refl _ | apply Drawn0.step)⟩
 clear H'
 obtain ⟨x3_1, rfl, HA, HK1, ⟨m1, rfl⟩⟩ := hrel
 cases gk with
 | zero => exact absurd HA.out (by simp [l4_Few.l0])
 | succ k1 =>
  have H := HA.out
  clear HA
  simp only [l4_Few.l0] at H
  by_cases c2 : x3_1 < (l0.length : Int)
  ·rw [if_pos c2] at H
   have c2b0 : decide (x3_1 < (l0.length : Int)) = true := decide_eq_true c2
   clear c2
   by_cases c3 : 0 ≤ x3_1
   ·rw [if_pos c3] at H
    have c3b0 : decide (0 ≤ x3_1) = true := decide_eq_true c3
    clear c3
    by_cases c4 : (((ua_ l0 x3_1).f3).length : Int) > 20
    ·rw [if_pos c4] at H
     have c4b0 : decide (20 < (((ua_ l0 x3_1).f3).length : Int)) = true := decide_eq_true c4
     have c4b1 : decide (20 < ((ua_ l0 x3_1).f3).length) = true := decide_eq_true (by omega)
     clear c4
     obtain rfl := Option.some.inj H
     have p143 : 0 ≤ (x3_1 : Int) := of_decide_eq_true (by first | (with_reducible assumption) | assumption)
     have q143 : x3_1 < (l0.length : Int) := of_decide_eq_true (by first | (with_reducible assumption) | assumption)
     obtain ⟨ad143, A143_3, c143_3, A143_4, c143_4, e143, hx143_0, hx143_1, hx143_2, hx143_3, hx143_4, hl143_3, hi143_3, hl143_4, hi143_4⟩ := ui_ HR0.out x3_1 p143 q143
     cases e143
     have HR143_3 := Aside0.mk hi143_3
     have HC143_3 := Aside0.mk hl143_3
     clear hi143_3 hl143_3
     have HR143_4 := Aside0.mk hi143_4
     have HC143_4 := Aside0.mk hl143_4
     clear hi143_4 hl143_4
     replace p143 := eq_true p143
     replace q143 := eq_true q143
     go_wp2
     go_ret
     exact ⟨by first | rfl | (simp; done) | (simp [*]; done), by repeat (first | exact Drawn0.refl _ | apply Drawn0.step)⟩
    rw [if_neg c4] at H
    have c4b0 : decide (20 < (((ua_ l0 x3_1).f3).length : Int)) = false := decide_eq_false c4
    have c4b1 : decide (20 < ((ua_ l0 x3_1).f3).length) = false := decide_eq_false (by omega)
    clear c4
    by_cases c5 : (((ua_ l0 x3_1).f4).length : Int) > 20
    ·rw [if_pos c5] at H
     have c5b0 : decide (20 < (((ua_ l0 x3_1).f4).length : Int)) = true := decide_eq_true c5
     have c5b1 : decide (20 < ((ua_ l0 x3_1).f4).length) = true := decide_eq_true (by omega)
     clear c5
     obtain rfl := Option.some.inj H
     have p143 : 0 ≤ (x3_1 : Int) := of_decide_eq_true (by first | (with_reducible assumption) | assumption)
     have q143 : x3_1 < (l0.length : Int) := of_decide_eq_true (by first | (with_reducible assumption) | assumption)
     obtain ⟨ad143, A143_3, c143_3, A143_4, c143_4, e143, hx143_0, hx143_1, hx143_2, hx143_3, hx143_4, hl143_3, hi143_3, hl143_4, hi143_4⟩ := ui_ HR0.out x3_1 p143 q143
     cases e143
     have HR143_3 := Aside0.mk hi143_3
     have HC143_3 := Aside0.mk hl143_3
     clear hi143_3 hl143_3
     have HR143_4 := Aside0.mk hi143_4
     have HC143_4 := Aside0.mk hl143_4
     clear hi143_4 hl143_4
     replace p143 := eq_true p143
     replace q143 := eq_true q143
     have p144 : 0 ≤ (x3_1 : Int) := of_decide_eq_true (by first | (with_reducible assumption) | assumption)
     have q144 : x3_1 < (l0.length : Int) := of_decide_eq_true (by first | (with_reducible assumption) | assumption)
     obtain ⟨ad144, A144_3, c144_3, A144_4, c144_4, e144, hx144_0, hx144_1, hx144_2, hx144_3, hx144_4, hl144_3, hi144_3, hl144_4, hi144_4⟩ := ui_ HR0.out x3_1 p144 q144
     obtain rfl : ad143 = ad144 := (by injection e144)
     have HR144_3 := Aside0.mk hi144_3
     have HC144_3 := Aside0.mk hl144_3
     clear hi144_3 hl144_3
     have HR144_4 := Aside0.mk hi144_4
     have HC144_4 := Aside0.mk hl144_4
     clear hi144_4 hl144_4
     replace p144 := eq_true p144
     replace q144 := eq_true q144
     have ea_ := Option.some.inj (hx143_3.symm.trans hx144_3)
     injection ea_ with ea_ en_ ec_
     subst ea_
     subst ec_
     clear en_
     have ea_ := Option.some.inj (hx143_4.symm.trans hx144_4)
     injection ea_ with ea_ en_ ec_
     subst ea_
     subst ec_
     clear en_
     go_wp2
     go_ret
     exact ⟨by first | rfl | (simp; done) | (simp [*]; done), by repeat (first | exact Drawn0.refl _ | apply Drawn0.step)⟩
    rw [if_neg c5] at H
    have c5b0 : decide (20 < (((ua_ l0 x3_1).f4).length : Int)) = false := decide_eq_false c5
    have c5b1 : decide (20 < ((ua_ l0 x3_1).f4).length) = false := decide_eq_false (by omega)
    clear c5
    have H' := Aside0.mk H
    clear H
    have p143 : 0 ≤ (x3_1 : Int) := of_decide_eq_true (by first | (with_reducible assumption) | assumption)
    have q143 : x3_1 < (l0.length : Int) := of_decide_eq_true (by first | (with_reducible assumption) | assumption)
    obtain ⟨ad143, A143_3, c143_3, A143_4, c143_4, e143, hx143_0, hx143_1, hx143_2, hx143_3, hx143_4, hl143_3, hi143_3, hl143_4, hi143_4⟩ := ui_ HR0.out x3_1 p143 q143
    cases e143
    have HR143_3 := Aside0.mk hi143_3
    have HC143_3 := Aside0.mk hl143_3
    clear hi143_3 hl143_3
    have HR143_4 := Aside0.mk hi143_4
    have HC143_4 := Aside0.mk hl143_4
    clear hi143_4 hl143_4
    replace p143 := eq_true p143
    replace q143 := eq_true q143
    have p144 : 0 ≤ (x3_1 : Int) := of_decide_eq_true (by first | (with_reducible assumption) | assumption)
    have q144 : x3_1 < (l0.length : Int) := of_decide_eq_true (by first | (with_reducible assumption) | assumption)
    obtain ⟨ad144, A144_3, c144_3, A144_4, c144_4, e144, hx144_0, hx144_1, hx144_2, hx144_3, hx144_4, hl144_3, hi144_3, hl144_4, hi144_4⟩ := ui_ HR0.out x3_1 p144 q144
    obtain rfl : ad143 = ad144 := (by injection e144)
    have HR144_3 := Aside0.mk hi144_3
    have HC144_3 := Aside0.mk hl144_3
    clear hi144_3 hl144_3
    have HR144_4 := Aside0.mk hi144_4
    have HC144_4 := Aside0.mk hl144_4
    clear hi144_4 hl144_4
    replace p144 := eq_true p144
    replace q144 := eq_true q144
    have ea_ := Option.some.inj (hx143_3.symm.trans hx144_3)
    injection ea_ with ea_ en_ ec_
    subst ea_
    subst ec_
    clear en_
    have ea_ := Option.some.inj (hx143_4.symm.trans hx144_4)
    injection ea_ with ea_ en_ ec_
    subst ea_
    subst ec_
    clear en_
    go_wp2
    go_roundg k1
    case measure => have := HK1.out; omega
    case rel => exact ⟨(wrap64 (x3_1 + 1)), (by first | rfl | (simp; done) | (simp [*]; done)), H', ⟨by have := HK1.out; omega⟩, by repeat (first | exact Drawn0.refl _ | apply Drawn0.step)⟩
   rw [if_neg c3] at H
   exact absurd H (by simp)
  rw [if_neg c2] at H
  have c2b0 : decide (x3_1 < (l0.length : Int)) = false := decide_eq_false c2
  clear c2
  obtain rfl := Option.some.inj H
  go_wp2
  go_ret
  exact ⟨by first | rfl | (simp; done) | (simp [*]; done), by repeat (first | exact Drawn0.refl _ | apply Drawn0.step)⟩
noncomputable def l4_within.f (a0 : Int) (a1 : Int) : Option (Int) := if a1 = 0 then (none) else (if (Int.tmod a0 a1) < 0 then (some (wrap64 ((Int.tmod a0 a1) + a1))) else (some (Int.tmod a0 a1)))
set_option maxHeartbeats 8000000 in
set_option maxRecDepth 100000 in
theorem l4_within.calls (a0 : Int) (a1 : Int) (r : Int) (w : World) (h : l4_within.f a0 a1 = some r) :
  Calls Tryz.prog 25 #[.int .i64 a0, .int .i64 a1] w fun e w' => e = .returned (.int .i64 r) ∧ Drawn0 w w' := by
 have H : (if a1 = 0 then (none) else (if (Int.tmod a0 a1) < 0 then (some (wrap64 ((Int.tmod a0 a1) + a1))) else (some (Int.tmod a0 a1)))) = some r := h
 clear h
 by_cases c3 : a1 = 0
 ·rw [if_pos c3] at H
  exact absurd H (by simp)
 rw [if_neg c3] at H
 have c3b0 : (a1 == 0) = false := beq_eq_false_iff_ne.mpr c3
 have c3b1 : (a1 != 0) = true := bne_iff_ne.mpr c3
 by_cases c4 : (Int.tmod a0 a1) < 0
 ·rw [if_pos c4] at H
  have c4b0 : decide ((Int.tmod a0 a1) < 0) = true := decide_eq_true c4
  clear c4
  obtain rfl := Option.some.inj H
  go_enter Tryz.func25, Tryz.ntmps25
  go_wp2
  go_ret
  exact ⟨by first | rfl | (simp; done) | (simp [*]; done), by repeat (first | exact Drawn0.refl _ | apply Drawn0.step)⟩
 rw [if_neg c4] at H
 have c4b0 : decide ((Int.tmod a0 a1) < 0) = false := decide_eq_false c4
 clear c4
 obtain rfl := Option.some.inj H
 go_enter Tryz.func25, Tryz.ntmps25
 go_wp2
 go_ret
 exact ⟨by first | rfl | (simp; done) | (simp [*]; done), by repeat (first | exact Drawn0.refl _ | apply Drawn0.step)⟩
end Go.Proofs.YtjfbfhoipgldgaaGreat.P
end
