/- ChartWords: signs that are there twice, of other values, count twice. Part 3: contracts of the functions that the law reaches, and words for them. -/
import Derived.Deep.RegionLaw
import Derived.Deep.RegionHeld3
import Derived.BigRegion
import Derived.Test.YtjfbfhoipgldgaaMCW2
section
namespace Go.Proofs.Ytjfbfhoipgldgaa.P
open Go.RowKit Go.Proofs.YtjfbfhoipgldgaaW.PrintWords Go.Proofs.YtjfbfhoipgldgaaW.PrintLast Go.Proofs.YtjfbfhoipgldgaaW.PrintMore
attribute [local go_sem] max2_int min2_int max_two min_two max_three min_three max_four min_four   
set_option linter.unusedVariables false
set_option linter.unusedSimpArgs false
attribute [local go_sem] Oper.semAt_some
def okIn (rules : List Rule') (toks : List Tok') (n : Nat) : Bool :=
  decide (rules.length ≤ 1000000) && decide (toks.length ≤ 1000) && toks.all fun x => decide ((0 ≤ x.f0 ∧ x.f0 < x.f1 ∧ x.f1 ≤ (n : Int)) ∧ (-1000000 ≤ x.f2 ∧ x.f2 ≤ 1000000))
theorem okIn_iff (rules : List Rule') (toks : List Tok') (n : Nat) : okIn rules toks n = true ↔ rules.length ≤ 1000000 ∧ toks.length ≤ 1000 ∧ ∀ x ∈ toks, (0 ≤ x.f0 ∧ x.f0 < x.f1 ∧ x.f1 ≤ (n : Int)) ∧ (-1000000 ≤ x.f2 ∧ x.f2 ≤ 1000000) := by
  unfold okIn
  simp only [Bool.and_eq_true, decide_eq_true_eq, List.all_eq_true, and_assoc]
def decS (M i : Nat) : Sp := ⟨((i / M / M : Nat) : Int), ((i / M % M : Nat) : Int), ((i % M : Nat) : Int)⟩
theorem decS_lt (M i j : Nat) (hM : 0 < M) (h : i < j) : ltS (decS M i) (decS M j) := by
  have h1 : i / M ≤ j / M := Nat.div_le_div_right (Nat.le_of_lt h)
  have h2 : i / M / M ≤ j / M / M := Nat.div_le_div_right h1
  have e1 := Nat.div_add_mod i M
  have e2 := Nat.div_add_mod j M
  have e3 := Nat.div_add_mod (i / M) M
  have e4 := Nat.div_add_mod (j / M) M
  have l1 := Nat.mod_lt (i / M) hM
  have l2 := Nat.mod_lt (j / M) hM
  unfold ltS decS
  simp only
  by_cases c1 : i / M / M < j / M / M
  · omega
  · have c2 : i / M / M = j / M / M := by omega
    rw [c2] at e3
    by_cases c3 : i / M % M < j / M % M
    · omega
    · have c4 : i / M % M = j / M % M := by omega
      have c5 : i / M = j / M := by omega
      rw [c5] at e1
      omega
theorem decS_of (M s p q : Nat) (hp : p < M) (hq : q < M) : decS M ((s * M + p) * M + q) = ⟨(s : Int), (p : Int), (q : Int)⟩ := by
  have hM : 0 < M := by omega
  have e1 : ((s * M + p) * M + q) / M = s * M + p := by
    rw [Nat.add_comm, Nat.add_mul_div_right _ _ hM, Nat.div_eq_of_lt hq, Nat.zero_add]
  have e2 : ((s * M + p) * M + q) % M = q := by
    rw [Nat.add_comm, Nat.add_mul_mod_self_right, Nat.mod_eq_of_lt hq]
  have e3 : (s * M + p) / M = s := by
    rw [Nat.add_comm, Nat.add_mul_div_right _ _ hM, Nat.div_eq_of_lt hp, Nat.zero_add]
  have e4 : (s * M + p) % M = p := by
    rw [Nat.add_comm, Nat.add_mul_mod_self_right, Nat.mod_eq_of_lt hp]
  unfold decS
  rw [e1, e2, e3, e4]
noncomputable def numP (rules : List Rule') (toks : List Tok') (n : Nat) (s : Int) (p q : Nat) : Nat := Chart.Num (tokT toks) n (plainR rules) s p q
noncomputable def spansP (rules : List Rule') (toks : List Tok') (n : Nat) : List Sp :=
  if checkP rules = true then ((List.range (20 * (n + 1) * (n + 1))).map (decS (n + 1))).filter fun x => decide (numP rules toks n x.f0 x.f1.toNat x.f2.toNat ≠ 0) else []
theorem spansP_rising (rules : List Rule') (toks : List Tok') (n : Nat) : (spansP rules toks n).Pairwise ltS := by
  unfold spansP
  split
  · refine List.Pairwise.filter _ ?_
    rw [List.pairwise_map]
    exact List.pairwise_lt_range.imp fun {i j} h => decS_lt _ _ _ (Nat.succ_pos n) h
  · exact List.Pairwise.nil
theorem spansP_len (rules : List Rule') (toks : List Tok') (n : Nat) : (spansP rules toks n).length ≤ 20 * (n + 1) * (n + 1) := by
  unfold spansP
  split
  · refine Nat.le_trans (List.length_filter_le _ _) ?_
    rw [List.length_map, List.length_range]
    exact Nat.le_refl _
  · exact Nat.zero_le _
theorem num_lhs (T : Int → Nat → Nat → Nat) (n : Nat) (rules : List (Int × List Int)) (s : Int) (p q : Nat) (h : Chart.Num T n rules s p q ≠ 0) : ∃ r ∈ rules, r.1 = s := by
  refine Classical.byContradiction fun hno => h ?_
  have : ∀ k, Chart.NF T n rules k s p q = 0 := by
    intro k
    cases k with
    | zero => rfl
    | succ k =>
      show Chart.sumR T n rules (Chart.NF T n rules k) s p q = 0
      unfold Chart.sumR
      refine Chart.sum_map_zero fun r hr => ?_
      obtain ⟨h1, h2⟩ := List.mem_filter.1 hr
      exact absurd ⟨r, h1, of_decide_eq_true h2⟩ hno
  exact this _
theorem num_sym (rules : List Rule') (hch : checkP rules = true) (toks : List Tok') (n : Nat) (s : Int) (p q : Nat) (h : numP rules toks n s p q ≠ 0) : 0 ≤ s ∧ s < 20 := by
  obtain ⟨r, hr, he⟩ := num_lhs _ _ _ _ _ _ h
  obtain ⟨r0, hr0, rfl⟩ := List.mem_map.1 hr
  have h1 := (right_sym0 r0 (List.all_eq_true.1 ((checkP_iff rules).1 hch).2.1 r0 hr0)).1
  have he' : r0.f0 = s := he
  omega
theorem num_tok (rules : List Rule') (hch : checkP rules = true) (toks : List Tok') (n m : Nat) (hT : ∀ x ∈ toks, 0 ≤ x.f0 ∧ x.f0 < x.f1 ∧ x.f1 ≤ (m : Int)) (s : Int) (p q : Nat) (h : numP rules toks n s p q ≠ 0) : p ≤ m ∧ q ≤ m := by
  have h1 := Chart.Num_places (tokT toks) n (plainR rules) (froms := List.range (m + 1)) (tos := List.range (m + 1)) (fun x p q hx => by
    unfold tokT at hx
    obtain ⟨t, ht⟩ := List.exists_mem_of_ne_nil (toks.filter fun t => decide (tkKey t = (-1 - x, (p : Int), (q : Int)))) (fun e => hx (by rw [e]; rfl))
    rw [List.mem_filter] at ht
    have h2 := of_decide_eq_true ht.2
    unfold tkKey at h2
    injection h2 with _ h2
    injection h2 with h2 h3
    have := hT t ht.1
    exact ⟨List.mem_range.2 (by omega), List.mem_range.2 (by omega)⟩) (plain_ne rules hch) s p q h
  have h2 := List.mem_range.1 h1.1
  have h3 := List.mem_range.1 h1.2
  omega
theorem spansP_mem (rules : List Rule') (toks : List Tok') (n : Nat) (hT : ∀ x ∈ toks, 0 ≤ x.f0 ∧ x.f0 < x.f1 ∧ x.f1 ≤ (n : Int)) (x : Sp) : x ∈ spansP rules toks n ↔ checkP rules = true ∧ ∃ (s : Int) (p q : Nat), x = ⟨s, (p : Int), (q : Int)⟩ ∧ numP rules toks n s p q ≠ 0 := by
  unfold spansP
  split
  · rename_i hch
    rw [List.mem_filter, decide_eq_true_eq]
    constructor
    · rintro ⟨h1, h2⟩
      obtain ⟨i, _, rfl⟩ := List.mem_map.1 h1
      exact ⟨hch, _, _, _, rfl, h2⟩
    · rintro ⟨_, s, p, q, rfl, h⟩
      have h1 := num_sym rules hch toks n s p q h
      have h2 := num_tok rules hch toks n n hT s p q h
      refine ⟨List.mem_map.2 ⟨(s.toNat * (n + 1) + p) * (n + 1) + q, List.mem_range.2 ?_, ?_⟩, h⟩
      · have e1 : s.toNat * (n + 1) + p < 20 * (n + 1) := by
          have : s.toNat * (n + 1) ≤ 19 * (n + 1) := Nat.mul_le_mul_right _ (by omega)
          omega
        have e2 : (s.toNat * (n + 1) + p + 1) * (n + 1) ≤ 20 * (n + 1) * (n + 1) := Nat.mul_le_mul_right _ e1
        rw [Nat.add_mul] at e2
        omega
      · rw [decS_of (n + 1) _ _ _ (by omega) (by omega)]
        congr 1
        omega
  · rename_i hch
    constructor
    · intro h
      simp at h
    · rintro ⟨h, _⟩
      exact absurd h hch
theorem nodup_sub_len {α : Type} [DecidableEq α] : ∀ (l1 l2 : List α), l1.Nodup → (∀ x ∈ l1, x ∈ l2) → l1.length ≤ l2.length
  | [], _, _, _ => Nat.zero_le _
  | x :: l1, l2, hn, h => by
    rw [List.nodup_cons] at hn
    have h1 := nodup_sub_len l1 (l2.erase x) hn.2 fun y hy => (List.mem_erase_of_ne (fun e => hn.1 (by rw [← e]; exact hy))).2 (h y (List.mem_cons_of_mem _ hy))
    have h2 := h x List.mem_cons_self
    rw [List.length_erase_of_mem h2] at h1
    have h3 := List.length_pos_of_mem h2
    simp only [List.length_cons]
    omega
def toSp (k : Key3) : Sp := ⟨k.1, k.2.1, k.2.2⟩
def keyS (e : MapEntry) : Sp := match e.key with | .agg #[.int _ a, .int _ b, .int _ c] => ⟨a, b, c⟩ | _ => z35
theorem keyS_of {e : MapEntry} {k : Key3} (h : e.key = encK k) : keyS e = toSp k := by
  unfold keyS
  rw [h]
  rfl
def Met (es : Array MapEntry) (seen : Array Nat) (out : List Sp) : Prop := ∃ ents : List MapEntry, (∀ e ∈ ents, e ∈ es.toList) ∧ (ents.map (·.born)).Nodup ∧ seen.toList = ents.map (·.born) ∧ out = ents.map keyS
theorem Met.start (es : Array MapEntry) : Met es #[] [] := ⟨[], by simp, by simp, rfl, rfl⟩
theorem Met.step {es : Array MapEntry} {seen : Array Nat} {out : List Sp} (h : Met es seen out) {e : MapEntry} (he : e ∈ (leftOf es seen).toList) : Met es (seen.push e.born) (out ++ [keyS e]) := by
  obtain ⟨ents, h1, h2, h3, rfl⟩ := h
  obtain ⟨k1, k2⟩ := mem_left he
  refine ⟨ents ++ [e], fun x hx => ?_, ?_, by rw [Array.toList_push, h3, List.map_append]; rfl, by rw [List.map_append]; rfl⟩
  · rcases List.mem_append.1 hx with hx | hx
    · exact h1 x hx
    · rw [List.mem_singleton.1 hx]; exact k1
  · rw [List.map_append, List.nodup_append]
    refine ⟨h2, by simp, fun a ha b hb e1 => ?_⟩
    rw [List.map_singleton, List.mem_singleton] at hb
    subst hb
    subst e1
    rw [← h3] at ha
    have : seen.contains e.born = true := Array.contains_iff_mem.2 (by simpa using ha)
    rw [this] at k2
    cases k2
theorem Met.nodup {es : Array MapEntry} {seen : Array Nat} {out : List Sp} (h : Met es seen out) (hk : es.toList.Pairwise fun x y => x.key ≠ y.key) (hK : ∀ e ∈ es.toList, ∃ k : Key3, e.key = encK k) : out.Nodup := by
  obtain ⟨ents, h1, h2, h3, rfl⟩ := h
  clear h3
  induction ents with
  | nil => simp
  | cons e ents ih =>
    rw [List.map_cons, List.nodup_cons] at h2 ⊢
    refine ⟨fun hm => ?_, ih (fun x hx => h1 x (List.mem_cons_of_mem _ hx)) h2.2⟩
    obtain ⟨x, hx, hxe⟩ := List.mem_map.1 hm
    obtain ⟨k1, e1⟩ := hK e (h1 e List.mem_cons_self)
    obtain ⟨k2, e2⟩ := hK x (h1 x (List.mem_cons_of_mem _ hx))
    rw [keyS_of e1, keyS_of e2] at hxe
    unfold toSp at hxe
    injection hxe with a b c
    have hkk : k2 = k1 := Prod.ext a (Prod.ext b c)
    have := entry_eq_of_key hk (h1 x (List.mem_cons_of_mem _ hx)) (h1 e List.mem_cons_self) (by rw [e1, e2, hkk])
    subst this
    exact h2.1 (List.mem_map.2 ⟨x, hx, rfl⟩)
theorem Met.mem {es : Array MapEntry} {seen : Array Nat} {out : List Sp} (h : Met es seen out) (x : Sp) (hx : x ∈ out) : ∃ e ∈ es.toList, x = keyS e := by
  obtain ⟨ents, h1, h2, h3, rfl⟩ := h
  obtain ⟨e, he, rfl⟩ := List.mem_map.1 hx
  exact ⟨e, h1 e he, rfl⟩
theorem Met.all {es : Array MapEntry} {seen : Array Nat} {out : List Sp} (h : Met es seen out) (h0 : (leftOf es seen).size = 0) (hb : (es.toList.map (·.born)).Nodup) (e : MapEntry) (he : e ∈ es.toList) : keyS e ∈ out := by
  obtain ⟨ents, h1, h2, h3, rfl⟩ := h
  have h4 : seen.contains e.born = true := by
    refine Classical.byContradiction fun hc => ?_
    have : e ∈ leftOf es seen := by
      unfold leftOf
      rw [Array.mem_filter]
      exact ⟨by simpa using he, by simpa using hc⟩
    rw [Array.eq_empty_of_size_eq_zero h0] at this
    simp at this
  have h5 : e.born ∈ seen.toList := by simpa using h4
  rw [h3] at h5
  obtain ⟨x, hx, hxb⟩ := List.mem_map.1 h5
  have := born_inj hb (h1 x hx) he hxb
  subst this
  exact List.mem_map.2 ⟨x, hx, rfl⟩
theorem keys_of {es : Array MapEntry} {m : List (Key3 × Int)} (he : es.toList.map (fun e => (e.key, e.val)) = (encC m).map fun p => (encK p.1, p.2)) :
    (∀ e ∈ es.toList, ∃ kv ∈ m, e.key = encK kv.1 ∧ e.val = .int .i64 kv.2) ∧ ∀ kv ∈ m, ∃ e ∈ es.toList, e.key = encK kv.1 := by
  unfold encC at he
  rw [List.map_map] at he
  constructor
  · intro e h
    have h1 : (e.key, e.val) ∈ es.toList.map fun e => (e.key, e.val) := List.mem_map.2 ⟨e, h, rfl⟩
    rw [he] at h1
    obtain ⟨kv, hkv, h2⟩ := List.mem_map.1 h1
    injection h2 with h2 h3
    exact ⟨kv, hkv, h2.symm, h3.symm⟩
  · intro kv h
    have h1 : (encK kv.1, Value.int .i64 kv.2) ∈ m.map ((fun p : Key3 × Value => (encK p.1, p.2)) ∘ fun p => (p.1, Value.int .i64 p.2)) := List.mem_map.2 ⟨kv, h, rfl⟩
    rw [← he] at h1
    obtain ⟨e, h2, h3⟩ := List.mem_map.1 h1
    injection h3 with h3 _
    exact ⟨e, h2, h3⟩
structure CellsSay (es : Array MapEntry) (rules : List Rule') (toks : List Tok') (n : Nat) (m : List (Key3 × Int)) : Prop where
  keys : (∀ e ∈ es.toList, ∃ kv ∈ m, e.key = encK kv.1 ∧ e.val = .int .i64 kv.2) ∧ ∀ kv ∈ m, ∃ e ∈ es.toList, e.key = encK kv.1
  val : ∀ (s : Int) (p q : Nat), (mget m (s, (p : Int), (q : Int))).getD 0 = if checkP rules = true then ((Chart.cap 1 (Chart.Num (tokT toks) n (plainR rules) s p q) : Nat) : Int) else 0
  none : ∀ kv ∈ m, ∃ (s : Int) (p q : Nat), kv.1 = (s, (p : Int), (q : Int)) ∧ checkP rules = true ∧ Chart.Num (tokT toks) n (plainR rules) s p q ≠ 0
  toks : ∀ x ∈ toks, 0 ≤ x.f0 ∧ x.f0 < x.f1 ∧ x.f1 ≤ (n : Int)
  apart : (es.toList.map (·.born)).Nodup ∧ es.toList.Pairwise fun x y => x.key ≠ y.key
theorem CellsSay.sub {es : Array MapEntry} {rules : List Rule'} {toks : List Tok'} {n : Nat} {m : List (Key3 × Int)} (h : CellsSay es rules toks n m) {seen : Array Nat} {out : List Sp} (hM : Met es seen out) (x : Sp) (hx : x ∈ out) : x ∈ spansP rules toks n := by
  obtain ⟨e, he, rfl⟩ := hM.mem x hx
  obtain ⟨kv, hkv, hk, _⟩ := h.keys.1 e he
  obtain ⟨s, p, q, h1, h2, h3⟩ := h.none kv hkv
  rw [keyS_of hk, h1]
  exact (spansP_mem rules toks n h.toks _).2 ⟨h2, s, p, q, rfl, h3⟩
theorem CellsSay.nodup {es : Array MapEntry} {rules : List Rule'} {toks : List Tok'} {n : Nat} {m : List (Key3 × Int)} (h : CellsSay es rules toks n m) {seen : Array Nat} {out : List Sp} (hM : Met es seen out) : out.Nodup :=
  hM.nodup h.apart.2 fun e he => by
    obtain ⟨kv, _, hk, _⟩ := h.keys.1 e he
    exact ⟨kv.1, hk⟩
theorem CellsSay.len {es : Array MapEntry} {rules : List Rule'} {toks : List Tok'} {n : Nat} {m : List (Key3 × Int)} (h : CellsSay es rules toks n m) (hn : n ≤ 1000) {seen : Array Nat} {out : List Sp} (hM : Met es seen out) : out.length ≤ 20040020 := by
  haveI : DecidableEq Sp := fun _ _ => Classical.propDecidable _
  have h1 := nodup_sub_len out (spansP rules toks n) (h.nodup hM) (h.sub hM)
  have h2 := spansP_len rules toks n
  have h3 : 20 * (n + 1) * (n + 1) ≤ 20 * 1001 * 1001 := Nat.mul_le_mul (by omega) (by omega)
  omega
theorem CellsSay.done {es : Array MapEntry} {rules : List Rule'} {toks : List Tok'} {n : Nat} {m : List (Key3 × Int)} (h : CellsSay es rules toks n m) {seen : Array Nat} {out : List Sp} (hM : Met es seen out) (h0 : (leftOf es seen).size = 0) : sortS out = spansP rules toks n := by
  refine rising_unique _ _ (sortS_rising out (h.nodup hM)) (spansP_rising rules toks n) fun x => ?_
  rw [(sortS_perm out).mem_iff]
  refine ⟨h.sub hM x, fun hx => ?_⟩
  obtain ⟨hch, s, p, q, rfl, hnum⟩ := (spansP_mem rules toks n h.toks x).1 hx
  have hv := h.val s p q
  rw [if_pos hch] at hv
  cases hg : mget m (s, (p : Int), (q : Int)) with
  | none =>
    rw [hg] at hv
    have h5 : Chart.cap 1 (Chart.Num (tokT toks) n (plainR rules) s p q) = 0 := by
      have h6 : (0 : Int) = ((Chart.cap 1 (Chart.Num (tokT toks) n (plainR rules) s p q) : Nat) : Int) := hv
      omega
    unfold Chart.cap at h5
    have h7 : Chart.Num (tokT toks) n (plainR rules) s p q ≠ 0 := hnum
    omega
  | some v =>
    obtain ⟨e, he, hek⟩ := h.keys.2 _ (mget_mem hg)
    have := hM.all h0 h.apart.1 e he
    rw [keyS_of hek] at this
    exact this
set_option maxHeartbeats 4000000 in
set_option maxRecDepth 100000 in
theorem spans_walk (A0 : Option Addr) (c0 : Nat) (rules : List Rule') (A1 : Option Addr) (c1 : Nat) (toks : List Tok') (n : Nat) (w : World) (hr0 : Kd.C k41 w A0 rules.length rules) (hc0 : rules.length ≤ c0)
    (hr1 : Kd.C k31 w A1 toks.length toks) (hc1 : toks.length ≤ c1) (hn : n ≤ 1000) (hin : okIn rules toks n = true) :
    Calls Try.prog 13 #[.slice A0 rules.length c0, .slice A1 toks.length c1, .int .i64 (n : Int)] w fun e w' => ∃ v0_ : Value, e = .returned (v0_) ∧ Kd.R k35 35 w' w.heap.size (fun _ => True) v0_ (spansP rules toks n) ∧ Below w.heap.size w w' := by
  obtain ⟨hrl, htl, htk⟩ := (okIn_iff rules toks n).1 hin
  have hfill := fill_walk A0 c0 rules A1 c1 toks n n 1 w hr0 hc0 hr1 hc1 hrl htl (Nat.le_refl _) (by decide) (by omega) (by omega) (fun x hx => ⟨⟨(htk x hx).1.1, (htk x hx).1.2.1, (htk x hx).1.2.2, (htk x hx).1.2.2⟩, (htk x hx).2⟩)
  have HF := Aside0.mk hfill
  have HTK := Aside0.mk htk
  clear hfill htk hr0 hr1 hin
  go_enter Try.func13, Try.ntmps13
  go_wp2_with fail
  refine HF.out.mono ?_
  rintro e w1 ⟨tb, b3, m, rfl, hc3, hM, hB, hval, hkeys⟩
  clear HF
  obtain ⟨es, clock, hb, he, hkk, hst⟩ := id hM
  have hst2 := (Go.MapKept.stamped_iff es clock).1 hst
  have hrun := run_range_map (P := Try.prog) w1 52 35 3 b3 es clock Try.underlying52 hb
  have hkeq := keys_of he
  have HSAY : Aside0 (CellsSay es rules toks n m) := ⟨⟨hkeq, hval, hkeys, fun x hx => (HTK.out x hx).1, hst2.2⟩⟩
  have HST := Aside0.mk hst2
  have HLT := Aside0.mk hM.lt
  have HB0 := Aside0.mk (below_alloc hB (.mapIter (some b3) clock #[] clock))
  have HMB := Aside0.mk (kn_blk_alloc (o' := .mapIter (some b3) clock #[] clock) hb)
  have HIT : Aside0 (∃ seen c0, (w1.alloc (.mapIter (some b3) clock #[] clock)).heap[w1.heap.size]? = some (.mapIter (some b3) clock seen c0) ∧ clock ≤ c0 ∧ Met es seen [] ∧ (leftOf es seen).size ≤ es.size) := ⟨⟨#[], clock, blk_new w1 _, Nat.le_refl _, Met.start es, Array.size_filter_le⟩⟩
  have HOUT : Aside0 (Kd.R k35 35 (w1.alloc (.mapIter (some b3) clock #[] clock)) w.heap.size (fun k => w1.heap.size < k) (.slice none 0 0) ([] : List Sp)) := ⟨Kd.R_nil _ _ _ _ _⟩
  have hwr : w.heap.size ≤ w1.heap.size := hB.size
  clear hM hB hb he hkk hst hst2 hkeq hval hkeys
  go_wp2
  have hrlt : w1.heap.size < (w1.alloc (.mapIter (some b3) clock #[] clock)).heap.size := by simp
  have hb3r : b3 < w1.heap.size := HLT.out
  generalize w1.alloc (.mapIter (some b3) clock #[] clock) = w2 at *
  generalize w1.heap.size = r at *
  clear hc3 hrun
  go_loopg [7] es.size (fun gg s7 wr => ∃ (out : List Sp) (seen : Array Nat) (c0 : Nat), (leftOf es seen).size ≤ gg ∧ Aside0 (wr.heap[b3]? = some (.map es clock)) ∧ Aside0 (wr.heap[r]? = some (.mapIter (some b3) clock seen c0) ∧ clock ≤ c0) ∧ Aside0 (Met es seen out) ∧ Aside0 (Kd.R k35 35 wr w.heap.size (fun k => r < k) s7 out) ∧ Aside0 (Below w.heap.size w wr))
  case atStart =>
    obtain ⟨seen, c0, h1, h2, h3, h4⟩ := HIT.out
    exact ⟨[], seen, c0, h4, HMB, ⟨⟨h1, h2⟩⟩, ⟨h3⟩, HOUT, HB0⟩
  case round =>
    clear HIT HMB HOUT HB0
    obtain ⟨out, seen, c0, hgg, HMB, HIT, HMET, HOUT, HB⟩ := hrel
    obtain ⟨Ao, co, hAo⟩ := Kd.R_slice HOUT.out
    subst hAo
    rcases run_next_at (P := Try.prog) wr 0 r b3 clock c0 seen es clock HIT.out.1 HMB.out HST.out.1 HIT.out.2 with ⟨h0, hnx⟩ | ⟨e, he, w3, hw3, hnx⟩
    · go_wp2_with fail
      have hlen := HSAY.out.len hn HMET.out
      refine (sort_spans wr w.heap.size _ Ao out.length co out HOUT.out (by omega)).mono ?_
      rintro e w4 ⟨rfl, hR4, hg4⟩
      have hsl : (sortS out).length = out.length := List.length_mergeSort _
      have hB4 := HB.out.grown hg4 HB.out.size (fun k hk => by
        obtain ⟨inner, ho, _⟩ := HOUT.out.2
        exact own_base ho k hk)
      have hrr := Kd.R_reads' hR4
      have hcl := clone_spans Ao co (sortS out) w4 hrr.2.2 (by rw [hsl]; exact hrr.2.1) (by omega)
      rw [hsl, HSAY.out.done HMET.out h0] at hcl
      have HCL := Aside0.mk hcl
      have HB4 := Aside0.mk hB4
      clear hR4 hg4 hrr hcl hB4 hnx
      go_wp2_with fail
      refine HCL.out.mono ?_
      rintro e w5 ⟨v5, rfl, hR5, hB5⟩
      have HR5 := Aside0.mk (Kd.R_lower hR5 HB4.out.size)
      have HB5 := Aside0.mk (below_step HB4.out hB5)
      clear hR5 hB5 HCL
      go_wp2
      go_ret
      exact ⟨_, rfl, HR5.out, HB5.out⟩
    · obtain ⟨kv, hkv, hek, hev⟩ := HSAY.out.keys.1 e (mem_left he).1
      have hks := keyS_of hek
      obtain ⟨⟨a, b, c⟩, v⟩ := kv
      replace hek : e.key = .agg #[.int .i64 a, .int .i64 b, .int .i64 c] := hek
      have hh3 : w3.heap = wr.heap ∧ w3.os = wr.os ∧ w3.tape = wr.tape ∧ w3.output = wr.output := by rcases hw3 with rfl | rfl <;> exact ⟨rfl, rfl, rfl, rfl⟩
      have hrl : r < wr.heap.size := (Array.getElem?_eq_some_iff.1 HIT.out.1).1
      have hg3 : wr.grownBy (Go.ChangeMaps.setBlock w3 r (.mapIter (some b3) clock (seen.push e.born) clock)) (some r) :=
        ⟨hh3.2.1, hh3.2.2.1, hh3.2.2.2, by simp [Go.ChangeMaps.setBlock, hh3.1], fun k hk hne => by
          have : r ≠ k := fun e => hne (by rw [e])
          simp [Go.ChangeMaps.setBlock, Array.getElem?_setIfInBounds, this, hh3.1]⟩
      have hit4 : (Go.ChangeMaps.setBlock w3 r (.mapIter (some b3) clock (seen.push e.born) clock)).heap[r]? = some (.mapIter (some b3) clock (seen.push e.born) clock) := by
        simp [Go.ChangeMaps.setBlock, hh3.1, hrl]
      have hne3 : r ≠ b3 := fun e => by
        have h1 := HIT.out.1
        rw [e, HMB.out] at h1
        cases h1
      generalize Go.ChangeMaps.setBlock w3 r (.mapIter (some b3) clock (seen.push e.born) clock) = w4 at *
      have hmb4 : w4.heap[b3]? = some (.map es clock) := (hg3.block b3 (Array.getElem?_eq_some_iff.1 HMB.out).1 (fun e => by injection e with e; exact hne3 e.symm)).trans HMB.out
      have hen := run_entry_at (P := Try.prog) w4 r b3 clock seen es clock e hit4 hmb4 (mem_left he).1 HST.out.2.1
      rw [hek, hev] at hnx hen
      have HMB4 := Aside0.mk hmb4
      have HIT4 := Aside0.mk hit4
      have HB4 := Aside0.mk (HB.out.grown hg3 HB.out.size (fun k hk => by injection hk with hk; omega))
      have HOUT4 : Aside0 (Kd.R k35 35 w4 w.heap.size (fun k => r < k) (.slice Ao out.length co) out) := ⟨Kd.R_mono (Kd.R_move (Kd.R_bound HOUT.out) (w1 := w4) (fun k hk => hg3.block k hk.2.2.1 (fun e => by injection e with e; have := hk.1; omega))) (fun k hk => hk.1)⟩
      have hlen := HSAY.out.len hn HMET.out
      have HMET4 := Aside0.mk (HMET.out.step he)
      have hlt4 := left_shrinks es seen e he
      have hsz4 : wr.heap.size ≤ w4.heap.size := hg3.size
      clear hh3 hw3 hg3 hit4 hmb4 HB HOUT HMET HIT HMB
      rw [hks] at HMET4
      have hrl4 : r < w4.heap.size := by omega
      have HO5 : Aside0 (Kd.R k35 35 ((w4.alloc (.cells #[.int .i64 a, .int .i64 b, .int .i64 c] 35)).alloc (.cells #[.int .i64 a, .int .i64 b, .int .i64 c] 35)) w.heap.size (fun k => r < k) (.slice Ao out.length co) out) := ⟨Kd.R_alloc (Kd.R_alloc HOUT4.out _) _⟩
      have HB5 := Aside0.mk (below_alloc (below_alloc HB4.out (.cells #[.int .i64 a, .int .i64 b, .int .i64 c] 35)) (.cells #[.int .i64 a, .int .i64 b, .int .i64 c] 35))
      have HMB5 := Aside0.mk (kn_blk_alloc (o' := .cells #[.int .i64 a, .int .i64 b, .int .i64 c] 35) (kn_blk_alloc (o' := .cells #[.int .i64 a, .int .i64 b, .int .i64 c] 35) HMB4.out))
      have HIT5 := Aside0.mk (kn_blk_alloc (o' := .cells #[.int .i64 a, .int .i64 b, .int .i64 c] 35) (kn_blk_alloc (o' := .cells #[.int .i64 a, .int .i64 b, .int .i64 c] 35) HIT4.out))
      have HC5 : Aside0 (Kd.C k35 ((w4.alloc (.cells #[.int .i64 a, .int .i64 b, .int .i64 c] 35)).alloc (.cells #[.int .i64 a, .int .i64 b, .int .i64 c] 35)) (some ⟨w4.heap.size + 1, 0, none⟩) 1 [(⟨a, b, c⟩ : Sp)]) := ⟨kn_C_of_blk (d := k35) (xs := [(⟨a, b, c⟩ : Sp)]) (cs := [.int .i64 a, .int .i64 b, .int .i64 c]) (kn_blk_at (w := w4.alloc (.cells #[.int .i64 a, .int .i64 b, .int .i64 c] 35)) (cs := #[.int .i64 a, .int .i64 b, .int .i64 c]) (t := 35) (n := w4.heap.size + 1) (by simp)) (by simp) (kn_one (k35_mk _ (⟨a, b, c⟩ : Sp)) rfl)⟩
      go_wp2_with (at_builtin; go_loud (refine Kd.R_append_rows k35 (Rr := k35.K ((w4.alloc (.cells #[.int .i64 a, .int .i64 b, .int .i64 c] 35)).alloc (.cells #[.int .i64 a, .int .i64 b, .int .i64 c] 35))) (w0 := w) w.heap.size rfl (.tmp 21) (.tmp 23) 32 35 (.agg #[.int .i64 0, .int .i64 0, .int .i64 0]) 24 rfl Try.underlying32 info35 rfl (by show 0 < 3; decide) (by decide) (.slice Ao out.length co) out [(⟨a, b, c⟩ : Sp)] (some ⟨w4.heap.size + 1, 0, none⟩) 1 1 (fun k => r < k) (fun _ => False) rfl rfl HO5.out HC5.out (fun x cs h => by have h9 := k35_open h; subst h9; exact k35_mkM _ _ _ x) (fun _ hk => hk.elim) (fun k hk => by simp at hk; omega) HB5.out HB5.out.size (by omega) ?_); intro v1 w5 ho hb hg hat)
      have HO6 := Aside0.mk ho
      have HB6 := Aside0.mk hb
      have hown : ∀ k, (Value.slice Ao out.length co).ownBlock = some k → r < k := HOUT4.out.1
      have HMB6 := Aside0.mk ((hg.block b3 (Array.getElem?_eq_some_iff.1 HMB5.out).1 (fun e => by have := hown _ e.symm; omega)).trans HMB5.out)
      have HIT6 := Aside0.mk ((hg.block r (Array.getElem?_eq_some_iff.1 HIT5.out).1 (fun e => by have := hown _ e.symm; omega)).trans HIT5.out)
      clear ho hb hg hat hown HO5 HB5 HMB5 HIT5 HC5 HB4 HMB4 HIT4 HOUT4
      go_wp2
      go_roundg (leftOf es (seen.push e.born)).size
      case measure => omega
      case rel => exact ⟨out ++ [(⟨a, b, c⟩ : Sp)], seen.push e.born, clock, Nat.le_refl _, HMB6, ⟨⟨HIT6.out, Nat.le_refl _⟩⟩, HMET4, HO6, HB6⟩
noncomputable def chart_Spans.f (rules : List Rule') (toks : List Tok') (size : Int) : Option (List Sp) := if (0 ≤ size ∧ size ≤ 1000) ∧ okIn rules toks size.toNat = true then some (spansP rules toks size.toNat) else none
theorem chart_Spans.calls (A0 : Option Addr) (c0 : Nat) (rules : List Rule') (A1 : Option Addr) (c1 : Nat) (toks : List Tok') (size : Int) (r : List Sp) (w : World) (hr0 : Kd.C k41 w A0 rules.length rules) (hc0 : rules.length ≤ c0)
    (hr1 : Kd.C k31 w A1 toks.length toks) (hc1 : toks.length ≤ c1) (h : chart_Spans.f rules toks size = some r) :
    Calls Try.prog 13 #[.slice A0 rules.length c0, .slice A1 toks.length c1, .int .i64 size] w fun e w' => ∃ v0_ : Value, e = .returned (v0_) ∧ Kd.R k35 35 w' w.heap.size (fun _ => True) v0_ r ∧ Below w.heap.size w w' := by
  unfold chart_Spans.f at h
  split at h
  case isFalse => cases h
  case isTrue hu =>
  obtain rfl := Option.some.inj h
  have h1 := spans_walk A0 c0 rules A1 c1 toks size.toNat w hr0 hc0 hr1 hc1 (by omega) hu.2
  rwa [show ((size.toNat : Nat) : Int) = size by omega] at h1
end Go.Proofs.Ytjfbfhoipgldgaa.P
end
section
namespace Go.Proofs.Ytjfbfhoipgldgaa.P
open Go.RowKit Go.Proofs.YtjfbfhoipgldgaaW.PrintWords Go.Proofs.YtjfbfhoipgldgaaW.PrintLast Go.Proofs.YtjfbfhoipgldgaaW.PrintMore
attribute [local go_sem] max2_int min2_int max_two min_two max_three min_three max_four min_four   
set_option linter.unusedVariables false
set_option linter.unusedSimpArgs false
attribute [local go_sem] Oper.semAt_some
def sizeL (l : List Tok') : Int := l.foldl (fun m x => max m x.f1) 0
theorem sizeL_snoc (l : List Tok') (k : Nat) (h : k < l.length) : sizeL (l.take (k + 1)) = max (sizeL (l.take k)) l[k].f1 := by
  unfold sizeL
  rw [List.take_succ_eq_append_getElem h, List.foldl_append]
  rfl
theorem sizeL_spec (n : Int) (hn : 0 ≤ n) : ∀ (l : List Tok') (m : Int), 0 ≤ m → m ≤ n → (∀ x ∈ l, x.f1 ≤ n) → (0 ≤ l.foldl (fun m x => max m x.f1) m ∧ m ≤ l.foldl (fun m x => max m x.f1) m ∧ l.foldl (fun m x => max m x.f1) m ≤ n) ∧ ∀ x ∈ l, x.f1 ≤ l.foldl (fun m x => max m x.f1) m
  | [], m, h0, h1, _ => ⟨⟨h0, Int.le_refl _, h1⟩, by simp⟩
  | y :: l, m, h0, h1, h => by
    have hy := h y List.mem_cons_self
    obtain ⟨⟨a, b, c⟩, d⟩ := sizeL_spec n hn l (max m y.f1) (by omega) (by omega) (fun x hx => h x (List.mem_cons_of_mem _ hx))
    rw [List.foldl_cons]
    refine ⟨⟨a, by omega, c⟩, fun x hx => ?_⟩
    rcases List.mem_cons.1 hx with rfl | hx
    · omega
    · exact d x hx
noncomputable def countP (rules : List Rule') (toks : List Tok') (sym f t most : Int) : Int :=
  if most ≤ 0 ∨ f < 0 ∨ t ≤ f then 0 else if sizeL toks < t then 0 else if checkP rules = true then ((Chart.cap most.toNat (numP rules toks (sizeL toks).toNat sym f.toNat t.toNat) : Nat) : Int) else 0
set_option maxHeartbeats 4000000 in
set_option maxRecDepth 100000 in
theorem count_walk (A0 : Option Addr) (c0 : Nat) (rules : List Rule') (A1 : Option Addr) (c1 : Nat) (toks : List Tok') (sym f t most : Int) (w : World) (hr0 : Kd.C k41 w A0 rules.length rules) (hc0 : rules.length ≤ c0)
    (hr1 : Kd.C k31 w A1 toks.length toks) (hc1 : toks.length ≤ c1) (hsym : isI64 sym) (hf : isI64 f) (ht : isI64 t) (hmost : isI64 most) (hm2 : most ≤ 1000000000) (hin : okIn rules toks 1000000 = true) :
    Calls Try.prog 14 #[.slice A0 rules.length c0, .slice A1 toks.length c1, .int .i64 sym, .int .i64 f, .int .i64 t, .int .i64 most] w fun e w' => e = .returned (.int .i64 (countP rules toks sym f t most)) ∧ Below w.heap.size w w' := by
  obtain ⟨hrl, htl, htk⟩ := (okIn_iff rules toks 1000000).1 hin
  have hsp := sizeL_spec 1000000 (by decide) toks 0 (by decide) (by decide) (fun x hx => by have := htk x hx; omega)
  have HSP : Aside0 ((0 ≤ sizeL toks ∧ sizeL toks ≤ 1000000) ∧ ∀ x ∈ toks, x.f1 ≤ sizeL toks) := ⟨⟨⟨hsp.1.1, hsp.1.2.2⟩, hsp.2⟩⟩
  have HTK := Aside0.mk htk
  have HR0 := Aside0.mk hr0
  have HR1 := Aside0.mk hr1
  have HB0 := Aside0.mk (Below.refl w.heap.size w)
  clear hr0 hr1 hsp htk hin
  by_cases d1 : most ≤ 0
  · have e1 : decide (most ≤ 0) = true := decide_eq_true d1
    have hz : countP rules toks sym f t most = 0 := by unfold countP; rw [if_pos (.inl d1)]
    rw [hz]
    clear hz
    go_enter Try.func14, Try.ntmps14
    go_wp2
    go_ret
    exact ⟨rfl, HB0.out⟩
  by_cases d2 : f < 0
  · have e1 : decide (most ≤ 0) = false := decide_eq_false d1
    have e2 : decide (f < 0) = true := decide_eq_true d2
    have hz : countP rules toks sym f t most = 0 := by unfold countP; rw [if_pos (.inr (.inl d2))]
    rw [hz]
    clear hz
    go_enter Try.func14, Try.ntmps14
    go_wp2
    go_ret
    exact ⟨rfl, HB0.out⟩
  by_cases d3 : t ≤ f
  · have e1 : decide (most ≤ 0) = false := decide_eq_false d1
    have e2 : decide (f < 0) = false := decide_eq_false d2
    have e3 : decide (t ≤ f) = true := decide_eq_true d3
    have hz : countP rules toks sym f t most = 0 := by unfold countP; rw [if_pos (.inr (.inr d3))]
    rw [hz]
    clear hz
    go_enter Try.func14, Try.ntmps14
    go_wp2
    go_ret
    exact ⟨rfl, HB0.out⟩
  have e1 : decide (most ≤ 0) = false := decide_eq_false d1
  have e2 : decide (f < 0) = false := decide_eq_false d2
  have e3 : decide (t ≤ f) = false := decide_eq_false d3
  obtain ⟨p, rfl⟩ : ∃ p : Nat, f = (p : Int) := ⟨f.toNat, by omega⟩
  obtain ⟨q, rfl⟩ : ∃ q : Nat, t = (q : Int) := ⟨t.toNat, by omega⟩
  obtain ⟨k, rfl⟩ : ∃ k : Nat, most = (k : Int) := ⟨most.toNat, by omega⟩
  go_enter Try.func14, Try.ntmps14
  go_wp2
  go_loopg [13, 29] toks.length (fun gg s13 s29 wr => ∃ kk : Nat, kk ≤ toks.length ∧ toks.length - kk ≤ gg ∧ s29 = .int .i64 kk ∧ s13 = .int .i64 (sizeL (toks.take kk)) ∧ Aside0 (Below w.heap.size w wr))
  case atStart => exact ⟨0, Nat.zero_le _, by omega, rfl, rfl, HB0⟩
  case round =>
    clear HB0
    obtain ⟨kk, hkk, hgg, rfl, rfl, HB⟩ := hrel
    by_cases hlt : kk < toks.length
    · have hltz : (kk : Int) < (toks.length : Int) := by omega
      obtain ⟨ad, hA, h0, h1, h2, h3, h4⟩ := at_T31 (Kd.C_below HR1.out HB.out) (kk : Int) (by omega) hltz
      subst hA
      have hx : rd_T31 toks (kk : Int) = toks[kk] := by
        show toks.getD (kk : Int).toNat _ = _
        rw [Int.toNat_natCast, List.getD_eq_getElem?_getD, List.getElem?_eq_getElem hlt]
        rfl
      have hsn := sizeL_snoc toks kk hlt
      rw [← hx] at hsn
      generalize rd_T31 toks (kk : Int) = y at *
      rw [Int.toNat_natCast] at h0 h1 h2 h3 h4
      generalize sizeL (toks.take kk) = sz at *
      have HSN := Aside0.mk hsn
      have HB1 := Aside0.mk (below_alloc HB.out (.cells #[.int .i64 y.f0, .int .i64 y.f1, .int .i64 y.f2, .int .i64 y.f3, .int .i64 y.f4] 31))
      clear hsn hx HB
      by_cases hmx : sz < y.f1
      · go_wp2
        go_roundg (toks.length - (kk + 1))
        case measure => omega
        case rel => exact ⟨kk + 1, by omega, by omega, by go_num, by rw [HSN.out, Int.max_eq_right (by omega)], HB1⟩
      · go_wp2
        go_roundg (toks.length - (kk + 1))
        case measure => omega
        case rel => exact ⟨kk + 1, by omega, by omega, by go_num, by rw [HSN.out, Int.max_eq_left (by omega)], HB1⟩
    · have he : kk = toks.length := by omega
      have hltz : decide ((kk : Int) < (toks.length : Int)) = false := by simp; omega
      clear hgg hkk
      subst he
      rw [List.take_of_length_le (Nat.le_refl _)]
      obtain ⟨n, hn⟩ : ∃ n : Nat, sizeL toks = (n : Int) := ⟨(sizeL toks).toNat, by have := HSP.out.1; omega⟩
      have hcp : countP rules toks sym (p : Int) (q : Int) (k : Int) = if (n : Int) < (q : Int) then 0 else if checkP rules = true then ((Chart.cap k (Chart.Num (tokT toks) n (plainR rules) sym p q) : Nat) : Int) else 0 := by
        unfold countP numP
        rw [if_neg (by omega), hn]
        simp only [Int.toNat_natCast]
      rw [hn]
      have HCP := Aside0.mk hcp
      have hn2 : n ≤ 1000000 := by have := HSP.out.1; omega
      have HTK2 : Aside0 (∀ x ∈ toks, (0 ≤ x.f0 ∧ x.f0 < x.f1 ∧ x.f1 ≤ (n : Int) ∧ x.f1 ≤ (n : Int)) ∧ (-1000000 ≤ x.f2 ∧ x.f2 ≤ 1000000)) := ⟨fun x hx => by
        have h1 := HTK.out x hx
        have h2 := HSP.out.2 x hx
        omega⟩
      clear hcp hn
      by_cases d4 : (n : Int) < (q : Int)
      · have e4 : decide ((n : Int) < (q : Int)) = true := decide_eq_true d4
        have HZ0 : Aside0 (countP rules toks sym (p : Int) (q : Int) (k : Int) = 0) := ⟨by rw [HCP.out, if_pos d4]⟩
        go_wp2
        go_ret
        exact ⟨by rw [HZ0.out]; rfl, HB.out⟩
      · have e4 : decide ((n : Int) < (q : Int)) = false := decide_eq_false d4
        go_wp2_with fail
        refine (fill_walk A0 c0 rules A1 c1 toks n n k wr (Kd.C_below HR0.out HB.out) hc0 (Kd.C_below HR1.out HB.out) hc1 hrl htl (by omega) (by omega) hn2 hn2 HTK2.out).mono ?_
        rintro e w5 ⟨tb, b3, m, rfl, hc3, hM, hB, hval, hkeys⟩
        have HB5 := Aside0.mk (below_step HB.out hB)
        have hkey := keySpan_of (a := sym) (b := (p : Int)) (c := (q : Int)) hsym ⟨by omega, by omega⟩ ⟨by omega, by omega⟩
        have hl := hM.lookup spanKeyed encK_inj Try.underlying52 (zero_int' w5) (sym, (p : Int), (q : Int)) hkey false
        simp only [encC_get, Bool.false_eq_true, if_false] at hl
        rw [hval sym p q] at hl
        replace hl : (Instr.lookup 52 (.map (some b3)) (.agg #[.int .i64 sym, .int .i64 (p : Int), .int .i64 (q : Int)]) false).run Try.prog w5 = .ok (.int .i64 (if checkP rules = true then ((Chart.cap k (Chart.Num (tokT toks) n (plainR rules) sym p q) : Nat) : Int) else 0)) w5 := hl
        obtain ⟨z, hz⟩ : ∃ z : Int, z = (if checkP rules = true then ((Chart.cap k (Chart.Num (tokT toks) n (plainR rules) sym p q) : Nat) : Int) else 0) := ⟨_, rfl⟩
        rw [← hz] at hl
        have HZ : Aside0 (countP rules toks sym (p : Int) (q : Int) (k : Int) = z) := ⟨by rw [HCP.out, if_neg (by omega), hz]⟩
        clear hz hval hkeys hM hB hkey
        go_wp2
        go_ret
        exact ⟨by rw [HZ.out]; rfl, HB5.out⟩
noncomputable def chart_Count.f (rules : List Rule') (toks : List Tok') (sym f t most : Int) : Option Int := if ((isI64 sym ∧ isI64 f ∧ isI64 t ∧ isI64 most) ∧ most ≤ 1000000000) ∧ okIn rules toks 1000000 = true then some (countP rules toks sym f t most) else none
theorem chart_Count.calls (A0 : Option Addr) (c0 : Nat) (rules : List Rule') (A1 : Option Addr) (c1 : Nat) (toks : List Tok') (sym f t most : Int) (r : Int) (w : World) (hr0 : Kd.C k41 w A0 rules.length rules) (hc0 : rules.length ≤ c0)
    (hr1 : Kd.C k31 w A1 toks.length toks) (hc1 : toks.length ≤ c1) (h : chart_Count.f rules toks sym f t most = some r) :
    Calls Try.prog 14 #[.slice A0 rules.length c0, .slice A1 toks.length c1, .int .i64 sym, .int .i64 f, .int .i64 t, .int .i64 most] w fun e w' => e = .returned (.int .i64 r) ∧ Below w.heap.size w w' := by
  unfold chart_Count.f at h
  split at h
  case isFalse => cases h
  case isTrue hu =>
  obtain rfl := Option.some.inj h
  exact count_walk A0 c0 rules A1 c1 toks sym f t most w hr0 hc0 hr1 hc1 hu.1.1.1 hu.1.1.2.1 hu.1.1.2.2.1 hu.1.1.2.2.2 hu.1.2 hu.2
end Go.Proofs.Ytjfbfhoipgldgaa.P
end
section
namespace Go.Proofs.Ytjfbfhoipgldgaa.P
open Go.RowKit Go.Proofs.YtjfbfhoipgldgaaW.PrintWords Go.Proofs.YtjfbfhoipgldgaaW.PrintLast Go.Proofs.YtjfbfhoipgldgaaW.PrintMore
attribute [local go_sem] max2_int min2_int max_two min_two max_three min_three max_four min_four   
set_option linter.unusedVariables false
set_option linter.unusedSimpArgs false
noncomputable def interlocutorlaw7_known.f  : Option (Bool) := (some (([(⟨0, (([(-1)] : List Int)), (⟨8, (([0] : List Int))⟩ : S39), 0⟩ : S41), (⟨0, (([0, 0] : List Int)), (⟨0, (([0] : List Int))⟩ : S39), 0⟩ : S41)] : List (S41)) : List (S41))).bind fun y129 => ((some (([(⟨0, 1, 0, 0, 1⟩ : S31), (⟨1, 2, 0, 0, 1⟩ : S31), (⟨2, 3, 0, 0, 1⟩ : S31)] : List (S31)) : List (S31))).bind fun y132 => ((chart_Spans.f y129 y132 3).bind fun t135 => ((chart_Spans.f ([] : List (S41)) ([] : List (S31)) 0).bind fun t138 => (if (t138.length : Int) = 0 then (if (t135.length : Int) = 6 then ((chart_Count.f y129 y132 0 0 3 100).bind fun t141 => (if t141 = 2 then ((chart_Count.f y129 y132 0 1 1 100).bind fun t142 => (some (t142 == 0))) else (some false))) else (some false)) else (some false)))))
set_option maxHeartbeats 8000000 in
set_option maxRecDepth 100000 in
theorem interlocutorlaw7_known.calls  (r : Bool) (w : World) (h : interlocutorlaw7_known.f  = some r) :
    Calls Try.prog 9 #[] w fun e w' => e = .returned (.bool r) ∧ Below w.heap.size w w' := by
  have hu39 := Try.underlying39
  have hu41 := Try.underlying41
  have hu31 := Try.underlying31
  have HB := Aside0.mk (Below.refl w.heap.size w)
  have H : ((some (([(⟨0, (([(-1)] : List Int)), (⟨8, (([0] : List Int))⟩ : S39), 0⟩ : S41), (⟨0, (([0, 0] : List Int)), (⟨0, (([0] : List Int))⟩ : S39), 0⟩ : S41)] : List (S41)) : List (S41))).bind fun y129 => ((some (([(⟨0, 1, 0, 0, 1⟩ : S31), (⟨1, 2, 0, 0, 1⟩ : S31), (⟨2, 3, 0, 0, 1⟩ : S31)] : List (S31)) : List (S31))).bind fun y132 => ((chart_Spans.f y129 y132 3).bind fun t135 => ((chart_Spans.f ([] : List (S41)) ([] : List (S31)) 0).bind fun t138 => (if (t138.length : Int) = 0 then (if (t135.length : Int) = 6 then ((chart_Count.f y129 y132 0 0 3 100).bind fun t141 => (if t141 = 2 then ((chart_Count.f y129 y132 0 1 1 100).bind fun t142 => (some (t142 == 0))) else (some false))) else (some false)) else (some false)))))) = some r := h
  clear h
  obtain ⟨y117, hy117⟩ : ∃ y_ : List Int, y_ = (([(-1)] : List Int)) := ⟨_, rfl⟩
  replace H : ((some (([(⟨0, y117, (⟨8, (([0] : List Int))⟩ : S39), 0⟩ : S41), (⟨0, (([0, 0] : List Int)), (⟨0, (([0] : List Int))⟩ : S39), 0⟩ : S41)] : List (S41)) : List (S41))).bind fun y129 => ((some (([(⟨0, 1, 0, 0, 1⟩ : S31), (⟨1, 2, 0, 0, 1⟩ : S31), (⟨2, 3, 0, 0, 1⟩ : S31)] : List (S31)) : List (S31))).bind fun y132 => ((chart_Spans.f y129 y132 3).bind fun t135 => ((chart_Spans.f ([] : List (S41)) ([] : List (S31)) 0).bind fun t138 => (if (t138.length : Int) = 0 then (if (t135.length : Int) = 6 then ((chart_Count.f y129 y132 0 0 3 100).bind fun t141 => (if t141 = 2 then ((chart_Count.f y129 y132 0 1 1 100).bind fun t142 => (some (t142 == 0))) else (some false))) else (some false)) else (some false)))))) = some r := by first | (rw [hy117]; with_reducible exact H) | (have H2_ := (Option.bind_some _ _).symm.trans H; rw [hy117]; with_reducible exact H2_) | (have H2_ := (Option.bind_some _ _).symm.trans H; with_reducible exact H2_) | with_reducible exact H | (rw [hy117]; exact H) | exact H
  have Ny117 := Aside0.mk hy117
  clear hy117
  obtain ⟨y120, hy120⟩ : ∃ y_ : List Int, y_ = (([0] : List Int)) := ⟨_, rfl⟩
  replace H : ((some (([(⟨0, y117, (⟨8, y120⟩ : S39), 0⟩ : S41), (⟨0, (([0, 0] : List Int)), (⟨0, (([0] : List Int))⟩ : S39), 0⟩ : S41)] : List (S41)) : List (S41))).bind fun y129 => ((some (([(⟨0, 1, 0, 0, 1⟩ : S31), (⟨1, 2, 0, 0, 1⟩ : S31), (⟨2, 3, 0, 0, 1⟩ : S31)] : List (S31)) : List (S31))).bind fun y132 => ((chart_Spans.f y129 y132 3).bind fun t135 => ((chart_Spans.f ([] : List (S41)) ([] : List (S31)) 0).bind fun t138 => (if (t138.length : Int) = 0 then (if (t135.length : Int) = 6 then ((chart_Count.f y129 y132 0 0 3 100).bind fun t141 => (if t141 = 2 then ((chart_Count.f y129 y132 0 1 1 100).bind fun t142 => (some (t142 == 0))) else (some false))) else (some false)) else (some false)))))) = some r := by first | (rw [hy120]; with_reducible exact H) | (have H2_ := (Option.bind_some _ _).symm.trans H; rw [hy120]; with_reducible exact H2_) | (have H2_ := (Option.bind_some _ _).symm.trans H; with_reducible exact H2_) | with_reducible exact H | (rw [hy120]; exact H) | exact H
  have Ny120 := Aside0.mk hy120
  clear hy120
  obtain ⟨y123, hy123⟩ : ∃ y_ : List Int, y_ = (([0, 0] : List Int)) := ⟨_, rfl⟩
  replace H : ((some (([(⟨0, y117, (⟨8, y120⟩ : S39), 0⟩ : S41), (⟨0, y123, (⟨0, (([0] : List Int))⟩ : S39), 0⟩ : S41)] : List (S41)) : List (S41))).bind fun y129 => ((some (([(⟨0, 1, 0, 0, 1⟩ : S31), (⟨1, 2, 0, 0, 1⟩ : S31), (⟨2, 3, 0, 0, 1⟩ : S31)] : List (S31)) : List (S31))).bind fun y132 => ((chart_Spans.f y129 y132 3).bind fun t135 => ((chart_Spans.f ([] : List (S41)) ([] : List (S31)) 0).bind fun t138 => (if (t138.length : Int) = 0 then (if (t135.length : Int) = 6 then ((chart_Count.f y129 y132 0 0 3 100).bind fun t141 => (if t141 = 2 then ((chart_Count.f y129 y132 0 1 1 100).bind fun t142 => (some (t142 == 0))) else (some false))) else (some false)) else (some false)))))) = some r := by first | (rw [hy123]; with_reducible exact H) | (have H2_ := (Option.bind_some _ _).symm.trans H; rw [hy123]; with_reducible exact H2_) | (have H2_ := (Option.bind_some _ _).symm.trans H; with_reducible exact H2_) | with_reducible exact H | (rw [hy123]; exact H) | exact H
  have Ny123 := Aside0.mk hy123
  clear hy123
  obtain ⟨y126, hy126⟩ : ∃ y_ : List Int, y_ = (([0] : List Int)) := ⟨_, rfl⟩
  replace H : ((some (([(⟨0, y117, (⟨8, y120⟩ : S39), 0⟩ : S41), (⟨0, y123, (⟨0, y126⟩ : S39), 0⟩ : S41)] : List (S41)) : List (S41))).bind fun y129 => ((some (([(⟨0, 1, 0, 0, 1⟩ : S31), (⟨1, 2, 0, 0, 1⟩ : S31), (⟨2, 3, 0, 0, 1⟩ : S31)] : List (S31)) : List (S31))).bind fun y132 => ((chart_Spans.f y129 y132 3).bind fun t135 => ((chart_Spans.f ([] : List (S41)) ([] : List (S31)) 0).bind fun t138 => (if (t138.length : Int) = 0 then (if (t135.length : Int) = 6 then ((chart_Count.f y129 y132 0 0 3 100).bind fun t141 => (if t141 = 2 then ((chart_Count.f y129 y132 0 1 1 100).bind fun t142 => (some (t142 == 0))) else (some false))) else (some false)) else (some false)))))) = some r := by first | (rw [hy126]; with_reducible exact H) | (have H2_ := (Option.bind_some _ _).symm.trans H; rw [hy126]; with_reducible exact H2_) | (have H2_ := (Option.bind_some _ _).symm.trans H; with_reducible exact H2_) | with_reducible exact H | (rw [hy126]; exact H) | exact H
  have Ny126 := Aside0.mk hy126
  clear hy126
  obtain ⟨y129, hy129⟩ : ∃ y_ : List (S41), y_ = (([(⟨0, y117, (⟨8, y120⟩ : S39), 0⟩ : S41), (⟨0, y123, (⟨0, y126⟩ : S39), 0⟩ : S41)] : List (S41))) := ⟨_, rfl⟩
  replace H : ((some (([(⟨0, 1, 0, 0, 1⟩ : S31), (⟨1, 2, 0, 0, 1⟩ : S31), (⟨2, 3, 0, 0, 1⟩ : S31)] : List (S31)) : List (S31))).bind fun y132 => ((chart_Spans.f y129 y132 3).bind fun t135 => ((chart_Spans.f ([] : List (S41)) ([] : List (S31)) 0).bind fun t138 => (if (t138.length : Int) = 0 then (if (t135.length : Int) = 6 then ((chart_Count.f y129 y132 0 0 3 100).bind fun t141 => (if t141 = 2 then ((chart_Count.f y129 y132 0 1 1 100).bind fun t142 => (some (t142 == 0))) else (some false))) else (some false)) else (some false))))) = some r := by first | (rw [hy129]; with_reducible exact H) | (have H2_ := (Option.bind_some _ _).symm.trans H; rw [hy129]; with_reducible exact H2_) | (have H2_ := (Option.bind_some _ _).symm.trans H; with_reducible exact H2_) | with_reducible exact H | (rw [hy129]; exact H) | exact H
  have Ny129 := Aside0.mk hy129
  clear hy129
  obtain ⟨y132, hy132⟩ : ∃ y_ : List (S31), y_ = (([(⟨0, 1, 0, 0, 1⟩ : S31), (⟨1, 2, 0, 0, 1⟩ : S31), (⟨2, 3, 0, 0, 1⟩ : S31)] : List (S31))) := ⟨_, rfl⟩
  replace H : ((chart_Spans.f y129 y132 3).bind fun t135 => ((chart_Spans.f ([] : List (S41)) ([] : List (S31)) 0).bind fun t138 => (if (t138.length : Int) = 0 then (if (t135.length : Int) = 6 then ((chart_Count.f y129 y132 0 0 3 100).bind fun t141 => (if t141 = 2 then ((chart_Count.f y129 y132 0 1 1 100).bind fun t142 => (some (t142 == 0))) else (some false))) else (some false)) else (some false)))) = some r := by first | (rw [hy132]; with_reducible exact H) | (have H2_ := (Option.bind_some _ _).symm.trans H; rw [hy132]; with_reducible exact H2_) | (have H2_ := (Option.bind_some _ _).symm.trans H; with_reducible exact H2_) | with_reducible exact H | (rw [hy132]; exact H) | exact H
  have Ny132 := Aside0.mk hy132
  clear hy132
  replace H := Option.bind_eq_some_iff.mp H
  obtain ⟨t135, A10, H⟩ := H
  replace H : ((chart_Spans.f ([] : List (S41)) ([] : List (S31)) 0).bind fun t138 => (if (t138.length : Int) = 0 then (if (t135.length : Int) = 6 then ((chart_Count.f y129 y132 0 0 3 100).bind fun t141 => (if t141 = 2 then ((chart_Count.f y129 y132 0 1 1 100).bind fun t142 => (some (t142 == 0))) else (some false))) else (some false)) else (some false))) = some r := H
  have A1 := Aside0.mk A10
  clear A10
  replace H := Option.bind_eq_some_iff.mp H
  obtain ⟨t138, A20, H⟩ := H
  replace H : (if (t138.length : Int) = 0 then (if (t135.length : Int) = 6 then ((chart_Count.f y129 y132 0 0 3 100).bind fun t141 => (if t141 = 2 then ((chart_Count.f y129 y132 0 1 1 100).bind fun t142 => (some (t142 == 0))) else (some false))) else (some false)) else (some false)) = some r := H
  have A2 := Aside0.mk A20
  clear A20
  by_cases c3 : (t138.length : Int) = 0
  · rw [if_pos c3] at H
    have c3b0 : ((t138.length : Int) == 0) = true := beq_iff_eq.mpr c3
    have c3b1 : ((t138.length : Int) != 0) = false := bne_eq_false_iff_eq.mpr c3
    clear c3
    by_cases c4 : (t135.length : Int) = 6
    · rw [if_pos c4] at H
      have c4b0 : ((t135.length : Int) == 6) = true := beq_iff_eq.mpr c4
      have c4b1 : ((t135.length : Int) != 6) = false := bne_eq_false_iff_eq.mpr c4
      clear c4
      replace H := Option.bind_eq_some_iff.mp H
      obtain ⟨t141, A50, H⟩ := H
      replace H : (if t141 = 2 then ((chart_Count.f y129 y132 0 1 1 100).bind fun t142 => (some (t142 == 0))) else (some false)) = some r := H
      have A5 := Aside0.mk A50
      clear A50
      by_cases c6 : t141 = 2
      · rw [if_pos c6] at H
        have c6b0 : (t141 == 2) = true := beq_iff_eq.mpr c6
        have c6b1 : (t141 != 2) = false := bne_eq_false_iff_eq.mpr c6
        clear c6
        replace H := Option.bind_eq_some_iff.mp H
        obtain ⟨t142, A70, H⟩ := H
        replace H : (some (t142 == 0)) = some r := H
        have A7 := Aside0.mk A70
        clear A70
        obtain rfl := Option.some.inj H
        go_enter Try.func9, Try.ntmps9
        go_wp2_with (first | ((with_reducible refine gate_dst (N := 4) rfl ?_); (try (refine gate_guard (by rfl) ?_; dsimp only)); refine Kd.R_lit (Kd.int .i64) _ 3 ?hg (N := 4) ?hd (xs := ([(-1)] : List Int)) (inner := [.int .i64 (-1)]) (ok := fun _ => True) (okp := fun _ => True) ?hr ?hp (fun _ hk => hk) trivial (Below.refl _ _) (Nat.le_refl _) (by simp) ?_; (case hd => rfl); (case hg => rfl); (case hr => first | (go_simp; done) | (go_simp; rfl)); (case hp => exact (Reps.one (show Kd.M (Kd.int .i64) _ _ _ (-1) [.int .i64 (-1)] from rfl) (Reps.none _ _))); intro v118 w8 ho9 hb hg_ hnew_; clear hg_ hnew_; (first | rw [← Ny117.out] at ho9 | (simp only [Int.reduceToNat] at ho9; rw [← Ny117.out] at ho9)); have n0_ := Aside0.mk (Kd.R_lower ho9 (below_size (by repeat (first | (with_reducible first | exact HB.out | apply below_alloc | apply pw_below_drewN | apply below_drew1) | exact HB.out)))); have n1_ := Aside0.mk (below_step (by repeat (first | (with_reducible first | exact HB.out | apply below_alloc | apply pw_below_drewN | apply below_drew1) | exact HB.out)) hb); clear HB; have HO119 := n0_; have HB := n1_; clear n0_ n1_; clear hb ho9) | ((with_reducible refine gate_dst (N := 5) rfl ?_); (try (refine gate_guard (by rfl) ?_; dsimp only)); refine Kd.R_lit (Kd.int .i64) _ 3 ?hg (N := 5) ?hd (xs := ([0] : List Int)) (inner := [.int .i64 0]) (ok := fun _ => True) (okp := fun _ => True) ?hr ?hp (fun _ hk => hk) trivial (Below.refl _ _) (Nat.le_refl _) (by simp) ?_; (case hd => rfl); (case hg => rfl); (case hr => first | (go_simp; done) | (go_simp; rfl)); (case hp => exact (Reps.one (show Kd.M (Kd.int .i64) _ _ _ 0 [.int .i64 0] from rfl) (Reps.none _ _))); intro v121 w10 ho11 hb hg_ hnew_; clear hg_ hnew_; (first | rw [← Ny120.out] at ho11 | (simp only [Int.reduceToNat] at ho11; rw [← Ny120.out] at ho11)); have n0_ := Aside0.mk (Kd.R_elder' (by (with_reducible repeat (first | apply Kd.R_alloc | apply Kd.R_drewN | apply Kd.R_drew)); exact HO119.out) (Kd.R_base ho11) hb); have n1_ := Aside0.mk (Kd.R_lower (Kd.R_new' ho11 (Kd.R_lt (by (with_reducible repeat (first | apply Kd.R_alloc | apply Kd.R_drewN | apply Kd.R_drew)); exact HO119.out))) (below_size (by repeat (first | (with_reducible first | exact HB.out | apply below_alloc | apply pw_below_drewN | apply below_drew1) | exact HB.out)))); have n2_ := Aside0.mk (below_step (by repeat (first | (with_reducible first | exact HB.out | apply below_alloc | apply pw_below_drewN | apply below_drew1) | exact HB.out)) hb); clear HO119; clear HB; have HO119 := n0_; have HO122 := n1_; have HB := n2_; clear n0_ n1_ n2_; clear hb ho11; obtain ⟨Ao12, co12, eo12⟩ := Kd.R_slice HO122.out; subst eo12; obtain ⟨Ao13, co13, eo13⟩ := Kd.R_slice HO119.out; subst eo13) | ((with_reducible refine gate_dst (N := 8) rfl ?_); (try (refine gate_guard (by rfl) ?_; dsimp only)); refine Kd.R_lit (Kd.int .i64) _ 3 ?hg (N := 8) ?hd (xs := ([0, 0] : List Int)) (inner := [.int .i64 0, .int .i64 0]) (ok := fun _ => True) (okp := fun _ => True) ?hr ?hp (fun _ hk => hk) trivial (Below.refl _ _) (Nat.le_refl _) (by simp) ?_; (case hd => rfl); (case hg => rfl); (case hr => first | (go_simp; done) | (go_simp; rfl)); (case hp => exact (Reps.one (show Kd.M (Kd.int .i64) _ _ _ 0 [.int .i64 0] from rfl) (Reps.one (show Kd.M (Kd.int .i64) _ _ _ 0 [.int .i64 0] from rfl) (Reps.none _ _)))); intro v124 w14 ho15 hb hg_ hnew_; clear hg_ hnew_; (first | rw [← Ny123.out] at ho15 | (simp only [Int.reduceToNat] at ho15; rw [← Ny123.out] at ho15)); have n0_ := Aside0.mk (Kd.R_elder' (by (with_reducible repeat (first | apply Kd.R_alloc | apply Kd.R_drewN | apply Kd.R_drew)); exact HO119.out) (Kd.R_base ho15) hb); have n1_ := Aside0.mk (Kd.R_elder' (by (with_reducible repeat (first | apply Kd.R_alloc | apply Kd.R_drewN | apply Kd.R_drew)); exact HO122.out) (Kd.R_base ho15) hb); have n2_ := Aside0.mk (Kd.R_lower (Kd.R_new' (Kd.R_new' ho15 (Kd.R_lt (by (with_reducible repeat (first | apply Kd.R_alloc | apply Kd.R_drewN | apply Kd.R_drew)); exact HO119.out))) (Kd.R_lt (by (with_reducible repeat (first | apply Kd.R_alloc | apply Kd.R_drewN | apply Kd.R_drew)); exact HO122.out))) (below_size (by repeat (first | (with_reducible first | exact HB.out | apply below_alloc | apply pw_below_drewN | apply below_drew1) | exact HB.out)))); have n3_ := Aside0.mk (below_step (by repeat (first | (with_reducible first | exact HB.out | apply below_alloc | apply pw_below_drewN | apply below_drew1) | exact HB.out)) hb); clear HO119; clear HO122; clear HB; have HO119 := n0_; have HO122 := n1_; have HO125 := n2_; have HB := n3_; clear n0_ n1_ n2_ n3_; clear hb ho15) | ((with_reducible refine gate_dst (N := 9) rfl ?_); (try (refine gate_guard (by rfl) ?_; dsimp only)); refine Kd.R_lit (Kd.int .i64) _ 3 ?hg (N := 9) ?hd (xs := ([0] : List Int)) (inner := [.int .i64 0]) (ok := fun _ => True) (okp := fun _ => True) ?hr ?hp (fun _ hk => hk) trivial (Below.refl _ _) (Nat.le_refl _) (by simp) ?_; (case hd => rfl); (case hg => rfl); (case hr => first | (go_simp; done) | (go_simp; rfl)); (case hp => exact (Reps.one (show Kd.M (Kd.int .i64) _ _ _ 0 [.int .i64 0] from rfl) (Reps.none _ _))); intro v127 w16 ho17 hb hg_ hnew_; clear hg_ hnew_; (first | rw [← Ny126.out] at ho17 | (simp only [Int.reduceToNat] at ho17; rw [← Ny126.out] at ho17)); have n0_ := Aside0.mk (Kd.R_elder' (by (with_reducible repeat (first | apply Kd.R_alloc | apply Kd.R_drewN | apply Kd.R_drew)); exact HO119.out) (Kd.R_base ho17) hb); have n1_ := Aside0.mk (Kd.R_elder' (by (with_reducible repeat (first | apply Kd.R_alloc | apply Kd.R_drewN | apply Kd.R_drew)); exact HO122.out) (Kd.R_base ho17) hb); have n2_ := Aside0.mk (Kd.R_elder' (by (with_reducible repeat (first | apply Kd.R_alloc | apply Kd.R_drewN | apply Kd.R_drew)); exact HO125.out) (Kd.R_base ho17) hb); have n3_ := Aside0.mk (Kd.R_lower (Kd.R_new' (Kd.R_new' (Kd.R_new' ho17 (Kd.R_lt (by (with_reducible repeat (first | apply Kd.R_alloc | apply Kd.R_drewN | apply Kd.R_drew)); exact HO119.out))) (Kd.R_lt (by (with_reducible repeat (first | apply Kd.R_alloc | apply Kd.R_drewN | apply Kd.R_drew)); exact HO122.out))) (Kd.R_lt (by (with_reducible repeat (first | apply Kd.R_alloc | apply Kd.R_drewN | apply Kd.R_drew)); exact HO125.out))) (below_size (by repeat (first | (with_reducible first | exact HB.out | apply below_alloc | apply pw_below_drewN | apply below_drew1) | exact HB.out)))); have n4_ := Aside0.mk (below_step (by repeat (first | (with_reducible first | exact HB.out | apply below_alloc | apply pw_below_drewN | apply below_drew1) | exact HB.out)) hb); clear HO119; clear HO122; clear HO125; clear HB; have HO119 := n0_; have HO122 := n1_; have HO125 := n2_; have HO128 := n3_; have HB := n4_; clear n0_ n1_ n2_ n3_ n4_; clear hb ho17; obtain ⟨Ao18, co18, eo18⟩ := Kd.R_slice HO128.out; subst eo18; obtain ⟨Ao19, co19, eo19⟩ := Kd.R_slice HO125.out; subst eo19) | ((with_reducible refine gate_dst (N := 12) rfl ?_); (try (refine gate_guard (by rfl) ?_; dsimp only)); refine Kd.N_lit k41 _ 41 ?hg (N' := 12) ?hd (xs := ([(⟨0, y117, (⟨8, y120⟩ : S39), 0⟩ : S41), (⟨0, y123, (⟨0, y126⟩ : S39), 0⟩ : S41)] : List (S41))) (inner := [.int .i64 0, .slice Ao13 y117.length co13, .int .i64 8, .slice Ao12 y120.length co12, .int .i64 0, .int .i64 0, .slice Ao19 y123.length co19, .int .i64 0, .slice Ao18 y126.length co18, .int .i64 0]) (ok := (fun _ => True)) (okp := (fun _ => True)) ?hr ?hp (fun _ hk => hk) ((show ∀ k_, w16.heap.size ≤ k_ → (fun _ => True) k_ from fun k_ hk => trivial) _ (Nat.le_refl _)) (Below.refl _ _) (Nat.le_refl _) (by simp) ?_; (case hd => rfl); (case hg => rfl); (case hr => first | (go_simp; done) | (go_simp; rfl)); (case hp => exact (Reps.c5 (show Kd.FK k41 _ _ (⟨0, y117, (⟨8, y120⟩ : S39), 0⟩ : S41) [.int .i64 0, .slice Ao13 y117.length co13, .int .i64 8, .slice Ao12 y120.length co12, .int .i64 0] from (k41_mkF _ _ (⟨0, y117, (⟨8, y120⟩ : S39), 0⟩ : S41) (Kd.R_reads' (Kd.R_mono (ok' := (fun _ => True)) (HO119.out) (fun k_ hk => trivial))).2.1 (Kd.R_F (Kd.R_mono (ok' := (fun _ => True)) (HO119.out) (fun k_ hk => trivial))) (Kd.R_reads' (Kd.R_mono (ok' := (fun _ => True)) (HO122.out) (fun k_ hk => trivial))).2.1 (Kd.R_F (Kd.R_mono (ok' := (fun _ => True)) (HO122.out) (fun k_ hk => trivial))))) (Reps.c5 (show Kd.FK k41 _ _ (⟨0, y123, (⟨0, y126⟩ : S39), 0⟩ : S41) [.int .i64 0, .slice Ao19 y123.length co19, .int .i64 0, .slice Ao18 y126.length co18, .int .i64 0] from (k41_mkF _ _ (⟨0, y123, (⟨0, y126⟩ : S39), 0⟩ : S41) (Kd.R_reads' (Kd.R_mono (ok' := (fun _ => True)) (HO125.out) (fun k_ hk => trivial))).2.1 (Kd.R_F (Kd.R_mono (ok' := (fun _ => True)) (HO125.out) (fun k_ hk => trivial))) (Kd.R_reads' (Kd.R_mono (ok' := (fun _ => True)) (HO128.out) (fun k_ hk => trivial))).2.1 (Kd.R_F (Kd.R_mono (ok' := (fun _ => True)) (HO128.out) (fun k_ hk => trivial))))) (Reps.none _ _)))); intro v130 w20 ho21 hb hg_ hnew_; clear hg_ hnew_; (first | rw [← Ny129.out] at ho21 | (simp only [Int.reduceToNat] at ho21; rw [← Ny129.out] at ho21)); have n0_ := Aside0.mk (Kd.N_lower ho21 (below_size (by repeat (first | (with_reducible first | exact HB.out | apply below_alloc | apply pw_below_drewN | apply below_drew1) | exact HB.out)))); have n1_ := Aside0.mk (below_step (by repeat (first | (with_reducible first | exact HB.out | apply below_alloc | apply pw_below_drewN | apply below_drew1) | exact HB.out)) hb); clear HB; clear HO119; clear HO122; clear HO125; clear HO128; have HO131 := n0_; have HB := n1_; clear n0_ n1_; clear hb ho21) | ((with_reducible refine gate_dst (N := 16) rfl ?_); (try (refine gate_guard (by rfl) ?_; dsimp only)); refine Kd.R_lit k31 _ 31 ?hg (N := 16) ?hd (xs := ([(⟨0, 1, 0, 0, 1⟩ : S31), (⟨1, 2, 0, 0, 1⟩ : S31), (⟨2, 3, 0, 0, 1⟩ : S31)] : List (S31))) (inner := [.int .i64 0, .int .i64 1, .int .i64 0, .int .i64 0, .int .i64 1, .int .i64 1, .int .i64 2, .int .i64 0, .int .i64 0, .int .i64 1, .int .i64 2, .int .i64 3, .int .i64 0, .int .i64 0, .int .i64 1]) (ok := fun _ => True) (okp := fun _ => True) ?hr ?hp (fun _ hk => hk) trivial (Below.refl _ _) (Nat.le_refl _) (by simp) ?_; (case hd => rfl); (case hg => rfl); (case hr => first | (go_simp; done) | (go_simp; rfl)); (case hp => exact (Reps.c5 (show Kd.M k31 _ _ _ (⟨0, 1, 0, 0, 1⟩ : S31) [.int .i64 0, .int .i64 1, .int .i64 0, .int .i64 0, .int .i64 1] from (k31_mkM _ _ _ (⟨0, 1, 0, 0, 1⟩ : S31) )) (Reps.c5 (show Kd.M k31 _ _ _ (⟨1, 2, 0, 0, 1⟩ : S31) [.int .i64 1, .int .i64 2, .int .i64 0, .int .i64 0, .int .i64 1] from (k31_mkM _ _ _ (⟨1, 2, 0, 0, 1⟩ : S31) )) (Reps.c5 (show Kd.M k31 _ _ _ (⟨2, 3, 0, 0, 1⟩ : S31) [.int .i64 2, .int .i64 3, .int .i64 0, .int .i64 0, .int .i64 1] from (k31_mkM _ _ _ (⟨2, 3, 0, 0, 1⟩ : S31) )) (Reps.none _ _))))); intro v133 w22 ho23 hb hg_ hnew_; clear hg_ hnew_; (first | rw [← Ny132.out] at ho23 | (simp only [Int.reduceToNat] at ho23; rw [← Ny132.out] at ho23)); have n0_ := Aside0.mk (Kd.N_elder' (by (with_reducible repeat (first | apply Kd.N_alloc | apply Kd.N_drewN | apply Kd.N_drew)); exact HO131.out) (Kd.R_base ho23) hb); have n1_ := Aside0.mk (Kd.R_lower ho23 (below_size (by repeat (first | (with_reducible first | exact HB.out | apply below_alloc | apply pw_below_drewN | apply below_drew1) | exact HB.out)))); have n2_ := Aside0.mk (below_step (by repeat (first | (with_reducible first | exact HB.out | apply below_alloc | apply pw_below_drewN | apply below_drew1) | exact HB.out)) hb); clear HO131; clear HB; have HO131 := n0_; have HO134 := n1_; have HB := n2_; clear n0_ n1_ n2_; clear hb ho23; obtain ⟨Ao24, co24, eo24⟩ := Kd.N_slice HO131.out; subst eo24; obtain ⟨Ao25, co25, eo25⟩ := Kd.R_slice HO134.out; subst eo25) | ((with_reducible refine gate_callee (f := 13) rfl ?_); refine goesL_ (some 19) rfl rfl Try.func13 (by kernel_rfl) rfl #[.slice Ao24 y129.length co24, .slice Ao25 y132.length co25, .int .i64 3] rfl (by (try simp only [List.map_toArray, List.map_cons, List.map_nil]); first | done | rfl | (simp only [List.length_drop, List.length_take]; rfl)) ?_; (with_reducible refine (chart_Spans.calls _ _ y129 _ _ y132 3 t135 _ ?side1 ?side2 ?side3 ?side4 A1.out).mono ?_); (case side1 => repeat (first | exact (Kd.N_reads' HO131.out).2.2 | (with_reducible refine Kd.C_alloc ?_ _) | (with_reducible refine Kd.C_drewN ?_ _) | (with_reducible refine Kd.C_drew ?_))); (case side2 => exact (Kd.N_reads' HO131.out).2.1); (case side3 => repeat (first | exact (Kd.R_reads' HO134.out).2.2 | (with_reducible refine Kd.C_alloc ?_ _) | (with_reducible refine Kd.C_drewN ?_ _) | (with_reducible refine Kd.C_drew ?_))); (case side4 => exact (Kd.R_reads' HO134.out).2.1); rintro e w26 ⟨v136, rfl, ho0, hb⟩; refine ⟨_, rfl, ?_⟩; have n0_ := Aside0.mk (Kd.N_elder' (by (with_reducible repeat (first | apply Kd.N_alloc | apply Kd.N_drewN | apply Kd.N_drew)); exact HO131.out) (Kd.R_base ho0) hb); have n1_ := Aside0.mk (Kd.R_below (by (with_reducible repeat (first | apply Kd.R_alloc | apply Kd.R_drewN | apply Kd.R_drew)); exact HO134.out) hb); have n2_ := Aside0.mk (Kd.R_lower ho0 (below_size (by repeat (first | (with_reducible first | exact HB.out | apply below_alloc | apply pw_below_drewN | apply below_drew1) | exact HB.out)))); have n3_ := Aside0.mk (below_step (by repeat (first | (with_reducible first | exact HB.out | apply below_alloc | apply pw_below_drewN | apply below_drew1) | exact HB.out)) hb); clear HO131; clear HO134; clear HB; have HO131 := n0_; have HO134 := n1_; have HO137 := n2_; have HB := n3_; clear n0_ n1_ n2_ n3_; (try clear hb); (try clear hb2); (try clear hk); (try clear hi); (try clear ho0)) | ((with_reducible refine gate_callee (f := 13) rfl ?_); refine goesL_ (some 20) rfl rfl Try.func13 (by kernel_rfl) rfl #[.slice none 0 0, .slice none 0 0, .int .i64 0] rfl (by (try simp only [List.map_toArray, List.map_cons, List.map_nil]); first | done | rfl | (simp only [List.length_drop, List.length_take]; rfl)) ?_; (refine (chart_Spans.calls _ _ ([] : List (S41)) _ _ ([] : List (S31)) 0 t138 _ ?side1 ?side2 ?side3 ?side4 A2.out).mono ?_); (case side1 => exact Kd.C_nil _ _); (case side2 => exact Nat.le_refl _); (case side3 => exact Kd.C_nil _ _); (case side4 => exact Nat.le_refl _); rintro e w27 ⟨v139, rfl, ho0, hb⟩; refine ⟨_, rfl, ?_⟩; have n0_ := Aside0.mk (Kd.N_elder' (by (with_reducible repeat (first | apply Kd.N_alloc | apply Kd.N_drewN | apply Kd.N_drew)); exact HO131.out) (Kd.R_base ho0) hb); have n1_ := Aside0.mk (Kd.R_below (by (with_reducible repeat (first | apply Kd.R_alloc | apply Kd.R_drewN | apply Kd.R_drew)); exact HO134.out) hb); have n2_ := Aside0.mk (Kd.R_elder' (by (with_reducible repeat (first | apply Kd.R_alloc | apply Kd.R_drewN | apply Kd.R_drew)); exact HO137.out) (Kd.R_base ho0) hb); have n3_ := Aside0.mk (Kd.R_lower (Kd.R_new' ho0 (Kd.R_lt (by (with_reducible repeat (first | apply Kd.R_alloc | apply Kd.R_drewN | apply Kd.R_drew)); exact HO137.out))) (below_size (by repeat (first | (with_reducible first | exact HB.out | apply below_alloc | apply pw_below_drewN | apply below_drew1) | exact HB.out)))); have n4_ := Aside0.mk (below_step (by repeat (first | (with_reducible first | exact HB.out | apply below_alloc | apply pw_below_drewN | apply below_drew1) | exact HB.out)) hb); clear HO131; clear HO134; clear HO137; clear HB; have HO131 := n0_; have HO134 := n1_; have HO137 := n2_; have HO140 := n3_; have HB := n4_; clear n0_ n1_ n2_ n3_ n4_; (try clear hb); (try clear hb2); (try clear hk); (try clear hi); (try clear ho0); obtain ⟨Ao28, co28, eo28⟩ := Kd.R_slice HO140.out; subst eo28; obtain ⟨Ao29, co29, eo29⟩ := Kd.R_slice HO137.out; subst eo29) | (go_at_call 14; (with_reducible refine (chart_Count.calls _ _ y129 _ _ y132 0 0 3 100 t141 _ ?side1 ?side2 ?side3 ?side4 A5.out).mono ?_); (case side1 => repeat (first | exact (Kd.N_reads' HO131.out).2.2 | (with_reducible refine Kd.C_alloc ?_ _) | (with_reducible refine Kd.C_drewN ?_ _) | (with_reducible refine Kd.C_drew ?_))); (case side2 => exact (Kd.N_reads' HO131.out).2.1); (case side3 => repeat (first | exact (Kd.R_reads' HO134.out).2.2 | (with_reducible refine Kd.C_alloc ?_ _) | (with_reducible refine Kd.C_drewN ?_ _) | (with_reducible refine Kd.C_drew ?_))); (case side4 => exact (Kd.R_reads' HO134.out).2.1); rintro e w30 ⟨rfl, hb⟩; have n0_ := Aside0.mk (Kd.N_below (by (with_reducible repeat (first | apply Kd.N_alloc | apply Kd.N_drewN | apply Kd.N_drew)); exact HO131.out) hb); have n1_ := Aside0.mk (Kd.R_below (by (with_reducible repeat (first | apply Kd.R_alloc | apply Kd.R_drewN | apply Kd.R_drew)); exact HO134.out) hb); have n2_ := Aside0.mk (Kd.R_below (by (with_reducible repeat (first | apply Kd.R_alloc | apply Kd.R_drewN | apply Kd.R_drew)); exact HO137.out) hb); have n3_ := Aside0.mk (Kd.R_below (by (with_reducible repeat (first | apply Kd.R_alloc | apply Kd.R_drewN | apply Kd.R_drew)); exact HO140.out) hb); have n4_ := Aside0.mk (below_step (by repeat (first | (with_reducible first | exact HB.out | apply below_alloc | apply pw_below_drewN | apply below_drew1) | exact HB.out)) hb); clear HO131; clear HO134; clear HO137; clear HO140; clear HB; have HO131 := n0_; have HO134 := n1_; have HO137 := n2_; have HO140 := n3_; have HB := n4_; clear n0_ n1_ n2_ n3_ n4_; (try clear hb); (try clear hb2); (try clear hk); (try clear hi)) | (go_at_call 14; (with_reducible refine (chart_Count.calls _ _ y129 _ _ y132 0 1 1 100 t142 _ ?side1 ?side2 ?side3 ?side4 A7.out).mono ?_); (case side1 => repeat (first | exact (Kd.N_reads' HO131.out).2.2 | (with_reducible refine Kd.C_alloc ?_ _) | (with_reducible refine Kd.C_drewN ?_ _) | (with_reducible refine Kd.C_drew ?_))); (case side2 => exact (Kd.N_reads' HO131.out).2.1); (case side3 => repeat (first | exact (Kd.R_reads' HO134.out).2.2 | (with_reducible refine Kd.C_alloc ?_ _) | (with_reducible refine Kd.C_drewN ?_ _) | (with_reducible refine Kd.C_drew ?_))); (case side4 => exact (Kd.R_reads' HO134.out).2.1); rintro e w31 ⟨rfl, hb⟩; have n0_ := Aside0.mk (Kd.N_below (by (with_reducible repeat (first | apply Kd.N_alloc | apply Kd.N_drewN | apply Kd.N_drew)); exact HO131.out) hb); have n1_ := Aside0.mk (Kd.R_below (by (with_reducible repeat (first | apply Kd.R_alloc | apply Kd.R_drewN | apply Kd.R_drew)); exact HO134.out) hb); have n2_ := Aside0.mk (Kd.R_below (by (with_reducible repeat (first | apply Kd.R_alloc | apply Kd.R_drewN | apply Kd.R_drew)); exact HO137.out) hb); have n3_ := Aside0.mk (Kd.R_below (by (with_reducible repeat (first | apply Kd.R_alloc | apply Kd.R_drewN | apply Kd.R_drew)); exact HO140.out) hb); have n4_ := Aside0.mk (below_step (by repeat (first | (with_reducible first | exact HB.out | apply below_alloc | apply pw_below_drewN | apply below_drew1) | exact HB.out)) hb); clear HO131; clear HO134; clear HO137; clear HO140; clear HB; have HO131 := n0_; have HO134 := n1_; have HO137 := n2_; have HO140 := n3_; have HB := n4_; clear n0_ n1_ n2_ n3_ n4_; (try clear hb); (try clear hb2); (try clear hk); (try clear hi)))
        go_ret
        exact ⟨by first | rfl | (simp [errW_none, errW_some] <;> rfl) | (simp [*, errW_none, errW_some] <;> rfl), by repeat (first | (with_reducible first | exact HB.out | apply below_alloc | apply pw_below_drewN | apply below_drew1) | exact HB.out)⟩
      · rw [if_neg c6] at H
        have c6b0 : (t141 == 2) = false := beq_eq_false_iff_ne.mpr c6
        have c6b1 : (t141 != 2) = true := bne_iff_ne.mpr c6
        obtain rfl := Option.some.inj H
        go_enter Try.func9, Try.ntmps9
        go_wp2_with (first | ((with_reducible refine gate_dst (N := 4) rfl ?_); (try (refine gate_guard (by rfl) ?_; dsimp only)); refine Kd.R_lit (Kd.int .i64) _ 3 ?hg (N := 4) ?hd (xs := ([(-1)] : List Int)) (inner := [.int .i64 (-1)]) (ok := fun _ => True) (okp := fun _ => True) ?hr ?hp (fun _ hk => hk) trivial (Below.refl _ _) (Nat.le_refl _) (by simp) ?_; (case hd => rfl); (case hg => rfl); (case hr => first | (go_simp; done) | (go_simp; rfl)); (case hp => exact (Reps.one (show Kd.M (Kd.int .i64) _ _ _ (-1) [.int .i64 (-1)] from rfl) (Reps.none _ _))); intro v118 w32 ho33 hb hg_ hnew_; clear hg_ hnew_; (first | rw [← Ny117.out] at ho33 | (simp only [Int.reduceToNat] at ho33; rw [← Ny117.out] at ho33)); have n0_ := Aside0.mk (Kd.R_lower ho33 (below_size (by repeat (first | (with_reducible first | exact HB.out | apply below_alloc | apply pw_below_drewN | apply below_drew1) | exact HB.out)))); have n1_ := Aside0.mk (below_step (by repeat (first | (with_reducible first | exact HB.out | apply below_alloc | apply pw_below_drewN | apply below_drew1) | exact HB.out)) hb); clear HB; have HO119 := n0_; have HB := n1_; clear n0_ n1_; clear hb ho33) | ((with_reducible refine gate_dst (N := 5) rfl ?_); (try (refine gate_guard (by rfl) ?_; dsimp only)); refine Kd.R_lit (Kd.int .i64) _ 3 ?hg (N := 5) ?hd (xs := ([0] : List Int)) (inner := [.int .i64 0]) (ok := fun _ => True) (okp := fun _ => True) ?hr ?hp (fun _ hk => hk) trivial (Below.refl _ _) (Nat.le_refl _) (by simp) ?_; (case hd => rfl); (case hg => rfl); (case hr => first | (go_simp; done) | (go_simp; rfl)); (case hp => exact (Reps.one (show Kd.M (Kd.int .i64) _ _ _ 0 [.int .i64 0] from rfl) (Reps.none _ _))); intro v121 w34 ho35 hb hg_ hnew_; clear hg_ hnew_; (first | rw [← Ny120.out] at ho35 | (simp only [Int.reduceToNat] at ho35; rw [← Ny120.out] at ho35)); have n0_ := Aside0.mk (Kd.R_elder' (by (with_reducible repeat (first | apply Kd.R_alloc | apply Kd.R_drewN | apply Kd.R_drew)); exact HO119.out) (Kd.R_base ho35) hb); have n1_ := Aside0.mk (Kd.R_lower (Kd.R_new' ho35 (Kd.R_lt (by (with_reducible repeat (first | apply Kd.R_alloc | apply Kd.R_drewN | apply Kd.R_drew)); exact HO119.out))) (below_size (by repeat (first | (with_reducible first | exact HB.out | apply below_alloc | apply pw_below_drewN | apply below_drew1) | exact HB.out)))); have n2_ := Aside0.mk (below_step (by repeat (first | (with_reducible first | exact HB.out | apply below_alloc | apply pw_below_drewN | apply below_drew1) | exact HB.out)) hb); clear HO119; clear HB; have HO119 := n0_; have HO122 := n1_; have HB := n2_; clear n0_ n1_ n2_; clear hb ho35; obtain ⟨Ao36, co36, eo36⟩ := Kd.R_slice HO122.out; subst eo36; obtain ⟨Ao37, co37, eo37⟩ := Kd.R_slice HO119.out; subst eo37) | ((with_reducible refine gate_dst (N := 8) rfl ?_); (try (refine gate_guard (by rfl) ?_; dsimp only)); refine Kd.R_lit (Kd.int .i64) _ 3 ?hg (N := 8) ?hd (xs := ([0, 0] : List Int)) (inner := [.int .i64 0, .int .i64 0]) (ok := fun _ => True) (okp := fun _ => True) ?hr ?hp (fun _ hk => hk) trivial (Below.refl _ _) (Nat.le_refl _) (by simp) ?_; (case hd => rfl); (case hg => rfl); (case hr => first | (go_simp; done) | (go_simp; rfl)); (case hp => exact (Reps.one (show Kd.M (Kd.int .i64) _ _ _ 0 [.int .i64 0] from rfl) (Reps.one (show Kd.M (Kd.int .i64) _ _ _ 0 [.int .i64 0] from rfl) (Reps.none _ _)))); intro v124 w38 ho39 hb hg_ hnew_; clear hg_ hnew_; (first | rw [← Ny123.out] at ho39 | (simp only [Int.reduceToNat] at ho39; rw [← Ny123.out] at ho39)); have n0_ := Aside0.mk (Kd.R_elder' (by (with_reducible repeat (first | apply Kd.R_alloc | apply Kd.R_drewN | apply Kd.R_drew)); exact HO119.out) (Kd.R_base ho39) hb); have n1_ := Aside0.mk (Kd.R_elder' (by (with_reducible repeat (first | apply Kd.R_alloc | apply Kd.R_drewN | apply Kd.R_drew)); exact HO122.out) (Kd.R_base ho39) hb); have n2_ := Aside0.mk (Kd.R_lower (Kd.R_new' (Kd.R_new' ho39 (Kd.R_lt (by (with_reducible repeat (first | apply Kd.R_alloc | apply Kd.R_drewN | apply Kd.R_drew)); exact HO119.out))) (Kd.R_lt (by (with_reducible repeat (first | apply Kd.R_alloc | apply Kd.R_drewN | apply Kd.R_drew)); exact HO122.out))) (below_size (by repeat (first | (with_reducible first | exact HB.out | apply below_alloc | apply pw_below_drewN | apply below_drew1) | exact HB.out)))); have n3_ := Aside0.mk (below_step (by repeat (first | (with_reducible first | exact HB.out | apply below_alloc | apply pw_below_drewN | apply below_drew1) | exact HB.out)) hb); clear HO119; clear HO122; clear HB; have HO119 := n0_; have HO122 := n1_; have HO125 := n2_; have HB := n3_; clear n0_ n1_ n2_ n3_; clear hb ho39) | ((with_reducible refine gate_dst (N := 9) rfl ?_); (try (refine gate_guard (by rfl) ?_; dsimp only)); refine Kd.R_lit (Kd.int .i64) _ 3 ?hg (N := 9) ?hd (xs := ([0] : List Int)) (inner := [.int .i64 0]) (ok := fun _ => True) (okp := fun _ => True) ?hr ?hp (fun _ hk => hk) trivial (Below.refl _ _) (Nat.le_refl _) (by simp) ?_; (case hd => rfl); (case hg => rfl); (case hr => first | (go_simp; done) | (go_simp; rfl)); (case hp => exact (Reps.one (show Kd.M (Kd.int .i64) _ _ _ 0 [.int .i64 0] from rfl) (Reps.none _ _))); intro v127 w40 ho41 hb hg_ hnew_; clear hg_ hnew_; (first | rw [← Ny126.out] at ho41 | (simp only [Int.reduceToNat] at ho41; rw [← Ny126.out] at ho41)); have n0_ := Aside0.mk (Kd.R_elder' (by (with_reducible repeat (first | apply Kd.R_alloc | apply Kd.R_drewN | apply Kd.R_drew)); exact HO119.out) (Kd.R_base ho41) hb); have n1_ := Aside0.mk (Kd.R_elder' (by (with_reducible repeat (first | apply Kd.R_alloc | apply Kd.R_drewN | apply Kd.R_drew)); exact HO122.out) (Kd.R_base ho41) hb); have n2_ := Aside0.mk (Kd.R_elder' (by (with_reducible repeat (first | apply Kd.R_alloc | apply Kd.R_drewN | apply Kd.R_drew)); exact HO125.out) (Kd.R_base ho41) hb); have n3_ := Aside0.mk (Kd.R_lower (Kd.R_new' (Kd.R_new' (Kd.R_new' ho41 (Kd.R_lt (by (with_reducible repeat (first | apply Kd.R_alloc | apply Kd.R_drewN | apply Kd.R_drew)); exact HO119.out))) (Kd.R_lt (by (with_reducible repeat (first | apply Kd.R_alloc | apply Kd.R_drewN | apply Kd.R_drew)); exact HO122.out))) (Kd.R_lt (by (with_reducible repeat (first | apply Kd.R_alloc | apply Kd.R_drewN | apply Kd.R_drew)); exact HO125.out))) (below_size (by repeat (first | (with_reducible first | exact HB.out | apply below_alloc | apply pw_below_drewN | apply below_drew1) | exact HB.out)))); have n4_ := Aside0.mk (below_step (by repeat (first | (with_reducible first | exact HB.out | apply below_alloc | apply pw_below_drewN | apply below_drew1) | exact HB.out)) hb); clear HO119; clear HO122; clear HO125; clear HB; have HO119 := n0_; have HO122 := n1_; have HO125 := n2_; have HO128 := n3_; have HB := n4_; clear n0_ n1_ n2_ n3_ n4_; clear hb ho41; obtain ⟨Ao42, co42, eo42⟩ := Kd.R_slice HO128.out; subst eo42; obtain ⟨Ao43, co43, eo43⟩ := Kd.R_slice HO125.out; subst eo43) | ((with_reducible refine gate_dst (N := 12) rfl ?_); (try (refine gate_guard (by rfl) ?_; dsimp only)); refine Kd.N_lit k41 _ 41 ?hg (N' := 12) ?hd (xs := ([(⟨0, y117, (⟨8, y120⟩ : S39), 0⟩ : S41), (⟨0, y123, (⟨0, y126⟩ : S39), 0⟩ : S41)] : List (S41))) (inner := [.int .i64 0, .slice Ao37 y117.length co37, .int .i64 8, .slice Ao36 y120.length co36, .int .i64 0, .int .i64 0, .slice Ao43 y123.length co43, .int .i64 0, .slice Ao42 y126.length co42, .int .i64 0]) (ok := (fun _ => True)) (okp := (fun _ => True)) ?hr ?hp (fun _ hk => hk) ((show ∀ k_, w40.heap.size ≤ k_ → (fun _ => True) k_ from fun k_ hk => trivial) _ (Nat.le_refl _)) (Below.refl _ _) (Nat.le_refl _) (by simp) ?_; (case hd => rfl); (case hg => rfl); (case hr => first | (go_simp; done) | (go_simp; rfl)); (case hp => exact (Reps.c5 (show Kd.FK k41 _ _ (⟨0, y117, (⟨8, y120⟩ : S39), 0⟩ : S41) [.int .i64 0, .slice Ao37 y117.length co37, .int .i64 8, .slice Ao36 y120.length co36, .int .i64 0] from (k41_mkF _ _ (⟨0, y117, (⟨8, y120⟩ : S39), 0⟩ : S41) (Kd.R_reads' (Kd.R_mono (ok' := (fun _ => True)) (HO119.out) (fun k_ hk => trivial))).2.1 (Kd.R_F (Kd.R_mono (ok' := (fun _ => True)) (HO119.out) (fun k_ hk => trivial))) (Kd.R_reads' (Kd.R_mono (ok' := (fun _ => True)) (HO122.out) (fun k_ hk => trivial))).2.1 (Kd.R_F (Kd.R_mono (ok' := (fun _ => True)) (HO122.out) (fun k_ hk => trivial))))) (Reps.c5 (show Kd.FK k41 _ _ (⟨0, y123, (⟨0, y126⟩ : S39), 0⟩ : S41) [.int .i64 0, .slice Ao43 y123.length co43, .int .i64 0, .slice Ao42 y126.length co42, .int .i64 0] from (k41_mkF _ _ (⟨0, y123, (⟨0, y126⟩ : S39), 0⟩ : S41) (Kd.R_reads' (Kd.R_mono (ok' := (fun _ => True)) (HO125.out) (fun k_ hk => trivial))).2.1 (Kd.R_F (Kd.R_mono (ok' := (fun _ => True)) (HO125.out) (fun k_ hk => trivial))) (Kd.R_reads' (Kd.R_mono (ok' := (fun _ => True)) (HO128.out) (fun k_ hk => trivial))).2.1 (Kd.R_F (Kd.R_mono (ok' := (fun _ => True)) (HO128.out) (fun k_ hk => trivial))))) (Reps.none _ _)))); intro v130 w44 ho45 hb hg_ hnew_; clear hg_ hnew_; (first | rw [← Ny129.out] at ho45 | (simp only [Int.reduceToNat] at ho45; rw [← Ny129.out] at ho45)); have n0_ := Aside0.mk (Kd.N_lower ho45 (below_size (by repeat (first | (with_reducible first | exact HB.out | apply below_alloc | apply pw_below_drewN | apply below_drew1) | exact HB.out)))); have n1_ := Aside0.mk (below_step (by repeat (first | (with_reducible first | exact HB.out | apply below_alloc | apply pw_below_drewN | apply below_drew1) | exact HB.out)) hb); clear HB; clear HO119; clear HO122; clear HO125; clear HO128; have HO131 := n0_; have HB := n1_; clear n0_ n1_; clear hb ho45) | ((with_reducible refine gate_dst (N := 16) rfl ?_); (try (refine gate_guard (by rfl) ?_; dsimp only)); refine Kd.R_lit k31 _ 31 ?hg (N := 16) ?hd (xs := ([(⟨0, 1, 0, 0, 1⟩ : S31), (⟨1, 2, 0, 0, 1⟩ : S31), (⟨2, 3, 0, 0, 1⟩ : S31)] : List (S31))) (inner := [.int .i64 0, .int .i64 1, .int .i64 0, .int .i64 0, .int .i64 1, .int .i64 1, .int .i64 2, .int .i64 0, .int .i64 0, .int .i64 1, .int .i64 2, .int .i64 3, .int .i64 0, .int .i64 0, .int .i64 1]) (ok := fun _ => True) (okp := fun _ => True) ?hr ?hp (fun _ hk => hk) trivial (Below.refl _ _) (Nat.le_refl _) (by simp) ?_; (case hd => rfl); (case hg => rfl); (case hr => first | (go_simp; done) | (go_simp; rfl)); (case hp => exact (Reps.c5 (show Kd.M k31 _ _ _ (⟨0, 1, 0, 0, 1⟩ : S31) [.int .i64 0, .int .i64 1, .int .i64 0, .int .i64 0, .int .i64 1] from (k31_mkM _ _ _ (⟨0, 1, 0, 0, 1⟩ : S31) )) (Reps.c5 (show Kd.M k31 _ _ _ (⟨1, 2, 0, 0, 1⟩ : S31) [.int .i64 1, .int .i64 2, .int .i64 0, .int .i64 0, .int .i64 1] from (k31_mkM _ _ _ (⟨1, 2, 0, 0, 1⟩ : S31) )) (Reps.c5 (show Kd.M k31 _ _ _ (⟨2, 3, 0, 0, 1⟩ : S31) [.int .i64 2, .int .i64 3, .int .i64 0, .int .i64 0, .int .i64 1] from (k31_mkM _ _ _ (⟨2, 3, 0, 0, 1⟩ : S31) )) (Reps.none _ _))))); intro v133 w46 ho47 hb hg_ hnew_; clear hg_ hnew_; (first | rw [← Ny132.out] at ho47 | (simp only [Int.reduceToNat] at ho47; rw [← Ny132.out] at ho47)); have n0_ := Aside0.mk (Kd.N_elder' (by (with_reducible repeat (first | apply Kd.N_alloc | apply Kd.N_drewN | apply Kd.N_drew)); exact HO131.out) (Kd.R_base ho47) hb); have n1_ := Aside0.mk (Kd.R_lower ho47 (below_size (by repeat (first | (with_reducible first | exact HB.out | apply below_alloc | apply pw_below_drewN | apply below_drew1) | exact HB.out)))); have n2_ := Aside0.mk (below_step (by repeat (first | (with_reducible first | exact HB.out | apply below_alloc | apply pw_below_drewN | apply below_drew1) | exact HB.out)) hb); clear HO131; clear HB; have HO131 := n0_; have HO134 := n1_; have HB := n2_; clear n0_ n1_ n2_; clear hb ho47; obtain ⟨Ao48, co48, eo48⟩ := Kd.N_slice HO131.out; subst eo48; obtain ⟨Ao49, co49, eo49⟩ := Kd.R_slice HO134.out; subst eo49) | ((with_reducible refine gate_callee (f := 13) rfl ?_); refine goesL_ (some 19) rfl rfl Try.func13 (by kernel_rfl) rfl #[.slice Ao48 y129.length co48, .slice Ao49 y132.length co49, .int .i64 3] rfl (by (try simp only [List.map_toArray, List.map_cons, List.map_nil]); first | done | rfl | (simp only [List.length_drop, List.length_take]; rfl)) ?_; (with_reducible refine (chart_Spans.calls _ _ y129 _ _ y132 3 t135 _ ?side1 ?side2 ?side3 ?side4 A1.out).mono ?_); (case side1 => repeat (first | exact (Kd.N_reads' HO131.out).2.2 | (with_reducible refine Kd.C_alloc ?_ _) | (with_reducible refine Kd.C_drewN ?_ _) | (with_reducible refine Kd.C_drew ?_))); (case side2 => exact (Kd.N_reads' HO131.out).2.1); (case side3 => repeat (first | exact (Kd.R_reads' HO134.out).2.2 | (with_reducible refine Kd.C_alloc ?_ _) | (with_reducible refine Kd.C_drewN ?_ _) | (with_reducible refine Kd.C_drew ?_))); (case side4 => exact (Kd.R_reads' HO134.out).2.1); rintro e w50 ⟨v136, rfl, ho0, hb⟩; refine ⟨_, rfl, ?_⟩; have n0_ := Aside0.mk (Kd.N_elder' (by (with_reducible repeat (first | apply Kd.N_alloc | apply Kd.N_drewN | apply Kd.N_drew)); exact HO131.out) (Kd.R_base ho0) hb); have n1_ := Aside0.mk (Kd.R_below (by (with_reducible repeat (first | apply Kd.R_alloc | apply Kd.R_drewN | apply Kd.R_drew)); exact HO134.out) hb); have n2_ := Aside0.mk (Kd.R_lower ho0 (below_size (by repeat (first | (with_reducible first | exact HB.out | apply below_alloc | apply pw_below_drewN | apply below_drew1) | exact HB.out)))); have n3_ := Aside0.mk (below_step (by repeat (first | (with_reducible first | exact HB.out | apply below_alloc | apply pw_below_drewN | apply below_drew1) | exact HB.out)) hb); clear HO131; clear HO134; clear HB; have HO131 := n0_; have HO134 := n1_; have HO137 := n2_; have HB := n3_; clear n0_ n1_ n2_ n3_; (try clear hb); (try clear hb2); (try clear hk); (try clear hi); (try clear ho0)) | ((with_reducible refine gate_callee (f := 13) rfl ?_); refine goesL_ (some 20) rfl rfl Try.func13 (by kernel_rfl) rfl #[.slice none 0 0, .slice none 0 0, .int .i64 0] rfl (by (try simp only [List.map_toArray, List.map_cons, List.map_nil]); first | done | rfl | (simp only [List.length_drop, List.length_take]; rfl)) ?_; (refine (chart_Spans.calls _ _ ([] : List (S41)) _ _ ([] : List (S31)) 0 t138 _ ?side1 ?side2 ?side3 ?side4 A2.out).mono ?_); (case side1 => exact Kd.C_nil _ _); (case side2 => exact Nat.le_refl _); (case side3 => exact Kd.C_nil _ _); (case side4 => exact Nat.le_refl _); rintro e w51 ⟨v139, rfl, ho0, hb⟩; refine ⟨_, rfl, ?_⟩; have n0_ := Aside0.mk (Kd.N_elder' (by (with_reducible repeat (first | apply Kd.N_alloc | apply Kd.N_drewN | apply Kd.N_drew)); exact HO131.out) (Kd.R_base ho0) hb); have n1_ := Aside0.mk (Kd.R_below (by (with_reducible repeat (first | apply Kd.R_alloc | apply Kd.R_drewN | apply Kd.R_drew)); exact HO134.out) hb); have n2_ := Aside0.mk (Kd.R_elder' (by (with_reducible repeat (first | apply Kd.R_alloc | apply Kd.R_drewN | apply Kd.R_drew)); exact HO137.out) (Kd.R_base ho0) hb); have n3_ := Aside0.mk (Kd.R_lower (Kd.R_new' ho0 (Kd.R_lt (by (with_reducible repeat (first | apply Kd.R_alloc | apply Kd.R_drewN | apply Kd.R_drew)); exact HO137.out))) (below_size (by repeat (first | (with_reducible first | exact HB.out | apply below_alloc | apply pw_below_drewN | apply below_drew1) | exact HB.out)))); have n4_ := Aside0.mk (below_step (by repeat (first | (with_reducible first | exact HB.out | apply below_alloc | apply pw_below_drewN | apply below_drew1) | exact HB.out)) hb); clear HO131; clear HO134; clear HO137; clear HB; have HO131 := n0_; have HO134 := n1_; have HO137 := n2_; have HO140 := n3_; have HB := n4_; clear n0_ n1_ n2_ n3_ n4_; (try clear hb); (try clear hb2); (try clear hk); (try clear hi); (try clear ho0); obtain ⟨Ao52, co52, eo52⟩ := Kd.R_slice HO140.out; subst eo52; obtain ⟨Ao53, co53, eo53⟩ := Kd.R_slice HO137.out; subst eo53) | (go_at_call 14; (with_reducible refine (chart_Count.calls _ _ y129 _ _ y132 0 0 3 100 t141 _ ?side1 ?side2 ?side3 ?side4 A5.out).mono ?_); (case side1 => repeat (first | exact (Kd.N_reads' HO131.out).2.2 | (with_reducible refine Kd.C_alloc ?_ _) | (with_reducible refine Kd.C_drewN ?_ _) | (with_reducible refine Kd.C_drew ?_))); (case side2 => exact (Kd.N_reads' HO131.out).2.1); (case side3 => repeat (first | exact (Kd.R_reads' HO134.out).2.2 | (with_reducible refine Kd.C_alloc ?_ _) | (with_reducible refine Kd.C_drewN ?_ _) | (with_reducible refine Kd.C_drew ?_))); (case side4 => exact (Kd.R_reads' HO134.out).2.1); rintro e w54 ⟨rfl, hb⟩; have n0_ := Aside0.mk (Kd.N_below (by (with_reducible repeat (first | apply Kd.N_alloc | apply Kd.N_drewN | apply Kd.N_drew)); exact HO131.out) hb); have n1_ := Aside0.mk (Kd.R_below (by (with_reducible repeat (first | apply Kd.R_alloc | apply Kd.R_drewN | apply Kd.R_drew)); exact HO134.out) hb); have n2_ := Aside0.mk (Kd.R_below (by (with_reducible repeat (first | apply Kd.R_alloc | apply Kd.R_drewN | apply Kd.R_drew)); exact HO137.out) hb); have n3_ := Aside0.mk (Kd.R_below (by (with_reducible repeat (first | apply Kd.R_alloc | apply Kd.R_drewN | apply Kd.R_drew)); exact HO140.out) hb); have n4_ := Aside0.mk (below_step (by repeat (first | (with_reducible first | exact HB.out | apply below_alloc | apply pw_below_drewN | apply below_drew1) | exact HB.out)) hb); clear HO131; clear HO134; clear HO137; clear HO140; clear HB; have HO131 := n0_; have HO134 := n1_; have HO137 := n2_; have HO140 := n3_; have HB := n4_; clear n0_ n1_ n2_ n3_ n4_; (try clear hb); (try clear hb2); (try clear hk); (try clear hi)))
        go_ret
        exact ⟨by first | rfl | (simp [errW_none, errW_some] <;> rfl) | (simp [*, errW_none, errW_some] <;> rfl), by repeat (first | (with_reducible first | exact HB.out | apply below_alloc | apply pw_below_drewN | apply below_drew1) | exact HB.out)⟩
    · rw [if_neg c4] at H
      have c4b0 : ((t135.length : Int) == 6) = false := beq_eq_false_iff_ne.mpr c4
      have c4b1 : ((t135.length : Int) != 6) = true := bne_iff_ne.mpr c4
      obtain rfl := Option.some.inj H
      go_enter Try.func9, Try.ntmps9
      go_wp2_with (first | ((with_reducible refine gate_dst (N := 4) rfl ?_); (try (refine gate_guard (by rfl) ?_; dsimp only)); refine Kd.R_lit (Kd.int .i64) _ 3 ?hg (N := 4) ?hd (xs := ([(-1)] : List Int)) (inner := [.int .i64 (-1)]) (ok := fun _ => True) (okp := fun _ => True) ?hr ?hp (fun _ hk => hk) trivial (Below.refl _ _) (Nat.le_refl _) (by simp) ?_; (case hd => rfl); (case hg => rfl); (case hr => first | (go_simp; done) | (go_simp; rfl)); (case hp => exact (Reps.one (show Kd.M (Kd.int .i64) _ _ _ (-1) [.int .i64 (-1)] from rfl) (Reps.none _ _))); intro v118 w55 ho56 hb hg_ hnew_; clear hg_ hnew_; (first | rw [← Ny117.out] at ho56 | (simp only [Int.reduceToNat] at ho56; rw [← Ny117.out] at ho56)); have n0_ := Aside0.mk (Kd.R_lower ho56 (below_size (by repeat (first | (with_reducible first | exact HB.out | apply below_alloc | apply pw_below_drewN | apply below_drew1) | exact HB.out)))); have n1_ := Aside0.mk (below_step (by repeat (first | (with_reducible first | exact HB.out | apply below_alloc | apply pw_below_drewN | apply below_drew1) | exact HB.out)) hb); clear HB; have HO119 := n0_; have HB := n1_; clear n0_ n1_; clear hb ho56) | ((with_reducible refine gate_dst (N := 5) rfl ?_); (try (refine gate_guard (by rfl) ?_; dsimp only)); refine Kd.R_lit (Kd.int .i64) _ 3 ?hg (N := 5) ?hd (xs := ([0] : List Int)) (inner := [.int .i64 0]) (ok := fun _ => True) (okp := fun _ => True) ?hr ?hp (fun _ hk => hk) trivial (Below.refl _ _) (Nat.le_refl _) (by simp) ?_; (case hd => rfl); (case hg => rfl); (case hr => first | (go_simp; done) | (go_simp; rfl)); (case hp => exact (Reps.one (show Kd.M (Kd.int .i64) _ _ _ 0 [.int .i64 0] from rfl) (Reps.none _ _))); intro v121 w57 ho58 hb hg_ hnew_; clear hg_ hnew_; (first | rw [← Ny120.out] at ho58 | (simp only [Int.reduceToNat] at ho58; rw [← Ny120.out] at ho58)); have n0_ := Aside0.mk (Kd.R_elder' (by (with_reducible repeat (first | apply Kd.R_alloc | apply Kd.R_drewN | apply Kd.R_drew)); exact HO119.out) (Kd.R_base ho58) hb); have n1_ := Aside0.mk (Kd.R_lower (Kd.R_new' ho58 (Kd.R_lt (by (with_reducible repeat (first | apply Kd.R_alloc | apply Kd.R_drewN | apply Kd.R_drew)); exact HO119.out))) (below_size (by repeat (first | (with_reducible first | exact HB.out | apply below_alloc | apply pw_below_drewN | apply below_drew1) | exact HB.out)))); have n2_ := Aside0.mk (below_step (by repeat (first | (with_reducible first | exact HB.out | apply below_alloc | apply pw_below_drewN | apply below_drew1) | exact HB.out)) hb); clear HO119; clear HB; have HO119 := n0_; have HO122 := n1_; have HB := n2_; clear n0_ n1_ n2_; clear hb ho58; obtain ⟨Ao59, co59, eo59⟩ := Kd.R_slice HO122.out; subst eo59; obtain ⟨Ao60, co60, eo60⟩ := Kd.R_slice HO119.out; subst eo60) | ((with_reducible refine gate_dst (N := 8) rfl ?_); (try (refine gate_guard (by rfl) ?_; dsimp only)); refine Kd.R_lit (Kd.int .i64) _ 3 ?hg (N := 8) ?hd (xs := ([0, 0] : List Int)) (inner := [.int .i64 0, .int .i64 0]) (ok := fun _ => True) (okp := fun _ => True) ?hr ?hp (fun _ hk => hk) trivial (Below.refl _ _) (Nat.le_refl _) (by simp) ?_; (case hd => rfl); (case hg => rfl); (case hr => first | (go_simp; done) | (go_simp; rfl)); (case hp => exact (Reps.one (show Kd.M (Kd.int .i64) _ _ _ 0 [.int .i64 0] from rfl) (Reps.one (show Kd.M (Kd.int .i64) _ _ _ 0 [.int .i64 0] from rfl) (Reps.none _ _)))); intro v124 w61 ho62 hb hg_ hnew_; clear hg_ hnew_; (first | rw [← Ny123.out] at ho62 | (simp only [Int.reduceToNat] at ho62; rw [← Ny123.out] at ho62)); have n0_ := Aside0.mk (Kd.R_elder' (by (with_reducible repeat (first | apply Kd.R_alloc | apply Kd.R_drewN | apply Kd.R_drew)); exact HO119.out) (Kd.R_base ho62) hb); have n1_ := Aside0.mk (Kd.R_elder' (by (with_reducible repeat (first | apply Kd.R_alloc | apply Kd.R_drewN | apply Kd.R_drew)); exact HO122.out) (Kd.R_base ho62) hb); have n2_ := Aside0.mk (Kd.R_lower (Kd.R_new' (Kd.R_new' ho62 (Kd.R_lt (by (with_reducible repeat (first | apply Kd.R_alloc | apply Kd.R_drewN | apply Kd.R_drew)); exact HO119.out))) (Kd.R_lt (by (with_reducible repeat (first | apply Kd.R_alloc | apply Kd.R_drewN | apply Kd.R_drew)); exact HO122.out))) (below_size (by repeat (first | (with_reducible first | exact HB.out | apply below_alloc | apply pw_below_drewN | apply below_drew1) | exact HB.out)))); have n3_ := Aside0.mk (below_step (by repeat (first | (with_reducible first | exact HB.out | apply below_alloc | apply pw_below_drewN | apply below_drew1) | exact HB.out)) hb); clear HO119; clear HO122; clear HB; have HO119 := n0_; have HO122 := n1_; have HO125 := n2_; have HB := n3_; clear n0_ n1_ n2_ n3_; clear hb ho62) | ((with_reducible refine gate_dst (N := 9) rfl ?_); (try (refine gate_guard (by rfl) ?_; dsimp only)); refine Kd.R_lit (Kd.int .i64) _ 3 ?hg (N := 9) ?hd (xs := ([0] : List Int)) (inner := [.int .i64 0]) (ok := fun _ => True) (okp := fun _ => True) ?hr ?hp (fun _ hk => hk) trivial (Below.refl _ _) (Nat.le_refl _) (by simp) ?_; (case hd => rfl); (case hg => rfl); (case hr => first | (go_simp; done) | (go_simp; rfl)); (case hp => exact (Reps.one (show Kd.M (Kd.int .i64) _ _ _ 0 [.int .i64 0] from rfl) (Reps.none _ _))); intro v127 w63 ho64 hb hg_ hnew_; clear hg_ hnew_; (first | rw [← Ny126.out] at ho64 | (simp only [Int.reduceToNat] at ho64; rw [← Ny126.out] at ho64)); have n0_ := Aside0.mk (Kd.R_elder' (by (with_reducible repeat (first | apply Kd.R_alloc | apply Kd.R_drewN | apply Kd.R_drew)); exact HO119.out) (Kd.R_base ho64) hb); have n1_ := Aside0.mk (Kd.R_elder' (by (with_reducible repeat (first | apply Kd.R_alloc | apply Kd.R_drewN | apply Kd.R_drew)); exact HO122.out) (Kd.R_base ho64) hb); have n2_ := Aside0.mk (Kd.R_elder' (by (with_reducible repeat (first | apply Kd.R_alloc | apply Kd.R_drewN | apply Kd.R_drew)); exact HO125.out) (Kd.R_base ho64) hb); have n3_ := Aside0.mk (Kd.R_lower (Kd.R_new' (Kd.R_new' (Kd.R_new' ho64 (Kd.R_lt (by (with_reducible repeat (first | apply Kd.R_alloc | apply Kd.R_drewN | apply Kd.R_drew)); exact HO119.out))) (Kd.R_lt (by (with_reducible repeat (first | apply Kd.R_alloc | apply Kd.R_drewN | apply Kd.R_drew)); exact HO122.out))) (Kd.R_lt (by (with_reducible repeat (first | apply Kd.R_alloc | apply Kd.R_drewN | apply Kd.R_drew)); exact HO125.out))) (below_size (by repeat (first | (with_reducible first | exact HB.out | apply below_alloc | apply pw_below_drewN | apply below_drew1) | exact HB.out)))); have n4_ := Aside0.mk (below_step (by repeat (first | (with_reducible first | exact HB.out | apply below_alloc | apply pw_below_drewN | apply below_drew1) | exact HB.out)) hb); clear HO119; clear HO122; clear HO125; clear HB; have HO119 := n0_; have HO122 := n1_; have HO125 := n2_; have HO128 := n3_; have HB := n4_; clear n0_ n1_ n2_ n3_ n4_; clear hb ho64; obtain ⟨Ao65, co65, eo65⟩ := Kd.R_slice HO128.out; subst eo65; obtain ⟨Ao66, co66, eo66⟩ := Kd.R_slice HO125.out; subst eo66) | ((with_reducible refine gate_dst (N := 12) rfl ?_); (try (refine gate_guard (by rfl) ?_; dsimp only)); refine Kd.N_lit k41 _ 41 ?hg (N' := 12) ?hd (xs := ([(⟨0, y117, (⟨8, y120⟩ : S39), 0⟩ : S41), (⟨0, y123, (⟨0, y126⟩ : S39), 0⟩ : S41)] : List (S41))) (inner := [.int .i64 0, .slice Ao60 y117.length co60, .int .i64 8, .slice Ao59 y120.length co59, .int .i64 0, .int .i64 0, .slice Ao66 y123.length co66, .int .i64 0, .slice Ao65 y126.length co65, .int .i64 0]) (ok := (fun _ => True)) (okp := (fun _ => True)) ?hr ?hp (fun _ hk => hk) ((show ∀ k_, w63.heap.size ≤ k_ → (fun _ => True) k_ from fun k_ hk => trivial) _ (Nat.le_refl _)) (Below.refl _ _) (Nat.le_refl _) (by simp) ?_; (case hd => rfl); (case hg => rfl); (case hr => first | (go_simp; done) | (go_simp; rfl)); (case hp => exact (Reps.c5 (show Kd.FK k41 _ _ (⟨0, y117, (⟨8, y120⟩ : S39), 0⟩ : S41) [.int .i64 0, .slice Ao60 y117.length co60, .int .i64 8, .slice Ao59 y120.length co59, .int .i64 0] from (k41_mkF _ _ (⟨0, y117, (⟨8, y120⟩ : S39), 0⟩ : S41) (Kd.R_reads' (Kd.R_mono (ok' := (fun _ => True)) (HO119.out) (fun k_ hk => trivial))).2.1 (Kd.R_F (Kd.R_mono (ok' := (fun _ => True)) (HO119.out) (fun k_ hk => trivial))) (Kd.R_reads' (Kd.R_mono (ok' := (fun _ => True)) (HO122.out) (fun k_ hk => trivial))).2.1 (Kd.R_F (Kd.R_mono (ok' := (fun _ => True)) (HO122.out) (fun k_ hk => trivial))))) (Reps.c5 (show Kd.FK k41 _ _ (⟨0, y123, (⟨0, y126⟩ : S39), 0⟩ : S41) [.int .i64 0, .slice Ao66 y123.length co66, .int .i64 0, .slice Ao65 y126.length co65, .int .i64 0] from (k41_mkF _ _ (⟨0, y123, (⟨0, y126⟩ : S39), 0⟩ : S41) (Kd.R_reads' (Kd.R_mono (ok' := (fun _ => True)) (HO125.out) (fun k_ hk => trivial))).2.1 (Kd.R_F (Kd.R_mono (ok' := (fun _ => True)) (HO125.out) (fun k_ hk => trivial))) (Kd.R_reads' (Kd.R_mono (ok' := (fun _ => True)) (HO128.out) (fun k_ hk => trivial))).2.1 (Kd.R_F (Kd.R_mono (ok' := (fun _ => True)) (HO128.out) (fun k_ hk => trivial))))) (Reps.none _ _)))); intro v130 w67 ho68 hb hg_ hnew_; clear hg_ hnew_; (first | rw [← Ny129.out] at ho68 | (simp only [Int.reduceToNat] at ho68; rw [← Ny129.out] at ho68)); have n0_ := Aside0.mk (Kd.N_lower ho68 (below_size (by repeat (first | (with_reducible first | exact HB.out | apply below_alloc | apply pw_below_drewN | apply below_drew1) | exact HB.out)))); have n1_ := Aside0.mk (below_step (by repeat (first | (with_reducible first | exact HB.out | apply below_alloc | apply pw_below_drewN | apply below_drew1) | exact HB.out)) hb); clear HB; clear HO119; clear HO122; clear HO125; clear HO128; have HO131 := n0_; have HB := n1_; clear n0_ n1_; clear hb ho68) | ((with_reducible refine gate_dst (N := 16) rfl ?_); (try (refine gate_guard (by rfl) ?_; dsimp only)); refine Kd.R_lit k31 _ 31 ?hg (N := 16) ?hd (xs := ([(⟨0, 1, 0, 0, 1⟩ : S31), (⟨1, 2, 0, 0, 1⟩ : S31), (⟨2, 3, 0, 0, 1⟩ : S31)] : List (S31))) (inner := [.int .i64 0, .int .i64 1, .int .i64 0, .int .i64 0, .int .i64 1, .int .i64 1, .int .i64 2, .int .i64 0, .int .i64 0, .int .i64 1, .int .i64 2, .int .i64 3, .int .i64 0, .int .i64 0, .int .i64 1]) (ok := fun _ => True) (okp := fun _ => True) ?hr ?hp (fun _ hk => hk) trivial (Below.refl _ _) (Nat.le_refl _) (by simp) ?_; (case hd => rfl); (case hg => rfl); (case hr => first | (go_simp; done) | (go_simp; rfl)); (case hp => exact (Reps.c5 (show Kd.M k31 _ _ _ (⟨0, 1, 0, 0, 1⟩ : S31) [.int .i64 0, .int .i64 1, .int .i64 0, .int .i64 0, .int .i64 1] from (k31_mkM _ _ _ (⟨0, 1, 0, 0, 1⟩ : S31) )) (Reps.c5 (show Kd.M k31 _ _ _ (⟨1, 2, 0, 0, 1⟩ : S31) [.int .i64 1, .int .i64 2, .int .i64 0, .int .i64 0, .int .i64 1] from (k31_mkM _ _ _ (⟨1, 2, 0, 0, 1⟩ : S31) )) (Reps.c5 (show Kd.M k31 _ _ _ (⟨2, 3, 0, 0, 1⟩ : S31) [.int .i64 2, .int .i64 3, .int .i64 0, .int .i64 0, .int .i64 1] from (k31_mkM _ _ _ (⟨2, 3, 0, 0, 1⟩ : S31) )) (Reps.none _ _))))); intro v133 w69 ho70 hb hg_ hnew_; clear hg_ hnew_; (first | rw [← Ny132.out] at ho70 | (simp only [Int.reduceToNat] at ho70; rw [← Ny132.out] at ho70)); have n0_ := Aside0.mk (Kd.N_elder' (by (with_reducible repeat (first | apply Kd.N_alloc | apply Kd.N_drewN | apply Kd.N_drew)); exact HO131.out) (Kd.R_base ho70) hb); have n1_ := Aside0.mk (Kd.R_lower ho70 (below_size (by repeat (first | (with_reducible first | exact HB.out | apply below_alloc | apply pw_below_drewN | apply below_drew1) | exact HB.out)))); have n2_ := Aside0.mk (below_step (by repeat (first | (with_reducible first | exact HB.out | apply below_alloc | apply pw_below_drewN | apply below_drew1) | exact HB.out)) hb); clear HO131; clear HB; have HO131 := n0_; have HO134 := n1_; have HB := n2_; clear n0_ n1_ n2_; clear hb ho70; obtain ⟨Ao71, co71, eo71⟩ := Kd.N_slice HO131.out; subst eo71; obtain ⟨Ao72, co72, eo72⟩ := Kd.R_slice HO134.out; subst eo72) | ((with_reducible refine gate_callee (f := 13) rfl ?_); refine goesL_ (some 19) rfl rfl Try.func13 (by kernel_rfl) rfl #[.slice Ao71 y129.length co71, .slice Ao72 y132.length co72, .int .i64 3] rfl (by (try simp only [List.map_toArray, List.map_cons, List.map_nil]); first | done | rfl | (simp only [List.length_drop, List.length_take]; rfl)) ?_; (with_reducible refine (chart_Spans.calls _ _ y129 _ _ y132 3 t135 _ ?side1 ?side2 ?side3 ?side4 A1.out).mono ?_); (case side1 => repeat (first | exact (Kd.N_reads' HO131.out).2.2 | (with_reducible refine Kd.C_alloc ?_ _) | (with_reducible refine Kd.C_drewN ?_ _) | (with_reducible refine Kd.C_drew ?_))); (case side2 => exact (Kd.N_reads' HO131.out).2.1); (case side3 => repeat (first | exact (Kd.R_reads' HO134.out).2.2 | (with_reducible refine Kd.C_alloc ?_ _) | (with_reducible refine Kd.C_drewN ?_ _) | (with_reducible refine Kd.C_drew ?_))); (case side4 => exact (Kd.R_reads' HO134.out).2.1); rintro e w73 ⟨v136, rfl, ho0, hb⟩; refine ⟨_, rfl, ?_⟩; have n0_ := Aside0.mk (Kd.N_elder' (by (with_reducible repeat (first | apply Kd.N_alloc | apply Kd.N_drewN | apply Kd.N_drew)); exact HO131.out) (Kd.R_base ho0) hb); have n1_ := Aside0.mk (Kd.R_below (by (with_reducible repeat (first | apply Kd.R_alloc | apply Kd.R_drewN | apply Kd.R_drew)); exact HO134.out) hb); have n2_ := Aside0.mk (Kd.R_lower ho0 (below_size (by repeat (first | (with_reducible first | exact HB.out | apply below_alloc | apply pw_below_drewN | apply below_drew1) | exact HB.out)))); have n3_ := Aside0.mk (below_step (by repeat (first | (with_reducible first | exact HB.out | apply below_alloc | apply pw_below_drewN | apply below_drew1) | exact HB.out)) hb); clear HO131; clear HO134; clear HB; have HO131 := n0_; have HO134 := n1_; have HO137 := n2_; have HB := n3_; clear n0_ n1_ n2_ n3_; (try clear hb); (try clear hb2); (try clear hk); (try clear hi); (try clear ho0)) | ((with_reducible refine gate_callee (f := 13) rfl ?_); refine goesL_ (some 20) rfl rfl Try.func13 (by kernel_rfl) rfl #[.slice none 0 0, .slice none 0 0, .int .i64 0] rfl (by (try simp only [List.map_toArray, List.map_cons, List.map_nil]); first | done | rfl | (simp only [List.length_drop, List.length_take]; rfl)) ?_; (refine (chart_Spans.calls _ _ ([] : List (S41)) _ _ ([] : List (S31)) 0 t138 _ ?side1 ?side2 ?side3 ?side4 A2.out).mono ?_); (case side1 => exact Kd.C_nil _ _); (case side2 => exact Nat.le_refl _); (case side3 => exact Kd.C_nil _ _); (case side4 => exact Nat.le_refl _); rintro e w74 ⟨v139, rfl, ho0, hb⟩; refine ⟨_, rfl, ?_⟩; have n0_ := Aside0.mk (Kd.N_elder' (by (with_reducible repeat (first | apply Kd.N_alloc | apply Kd.N_drewN | apply Kd.N_drew)); exact HO131.out) (Kd.R_base ho0) hb); have n1_ := Aside0.mk (Kd.R_below (by (with_reducible repeat (first | apply Kd.R_alloc | apply Kd.R_drewN | apply Kd.R_drew)); exact HO134.out) hb); have n2_ := Aside0.mk (Kd.R_elder' (by (with_reducible repeat (first | apply Kd.R_alloc | apply Kd.R_drewN | apply Kd.R_drew)); exact HO137.out) (Kd.R_base ho0) hb); have n3_ := Aside0.mk (Kd.R_lower (Kd.R_new' ho0 (Kd.R_lt (by (with_reducible repeat (first | apply Kd.R_alloc | apply Kd.R_drewN | apply Kd.R_drew)); exact HO137.out))) (below_size (by repeat (first | (with_reducible first | exact HB.out | apply below_alloc | apply pw_below_drewN | apply below_drew1) | exact HB.out)))); have n4_ := Aside0.mk (below_step (by repeat (first | (with_reducible first | exact HB.out | apply below_alloc | apply pw_below_drewN | apply below_drew1) | exact HB.out)) hb); clear HO131; clear HO134; clear HO137; clear HB; have HO131 := n0_; have HO134 := n1_; have HO137 := n2_; have HO140 := n3_; have HB := n4_; clear n0_ n1_ n2_ n3_ n4_; (try clear hb); (try clear hb2); (try clear hk); (try clear hi); (try clear ho0); obtain ⟨Ao75, co75, eo75⟩ := Kd.R_slice HO140.out; subst eo75; obtain ⟨Ao76, co76, eo76⟩ := Kd.R_slice HO137.out; subst eo76))
      go_ret
      exact ⟨by first | rfl | (simp [errW_none, errW_some] <;> rfl) | (simp [*, errW_none, errW_some] <;> rfl), by repeat (first | (with_reducible first | exact HB.out | apply below_alloc | apply pw_below_drewN | apply below_drew1) | exact HB.out)⟩
  · rw [if_neg c3] at H
    have c3b0 : ((t138.length : Int) == 0) = false := beq_eq_false_iff_ne.mpr c3
    have c3b1 : ((t138.length : Int) != 0) = true := bne_iff_ne.mpr c3
    have c3b2 : ¬ (t138 = []) := fun h_ => c3 (by rw [h_]; rfl)
    obtain rfl := Option.some.inj H
    go_enter Try.func9, Try.ntmps9
    go_wp2_with (first | ((with_reducible refine gate_dst (N := 4) rfl ?_); (try (refine gate_guard (by rfl) ?_; dsimp only)); refine Kd.R_lit (Kd.int .i64) _ 3 ?hg (N := 4) ?hd (xs := ([(-1)] : List Int)) (inner := [.int .i64 (-1)]) (ok := fun _ => True) (okp := fun _ => True) ?hr ?hp (fun _ hk => hk) trivial (Below.refl _ _) (Nat.le_refl _) (by simp) ?_; (case hd => rfl); (case hg => rfl); (case hr => first | (go_simp; done) | (go_simp; rfl)); (case hp => exact (Reps.one (show Kd.M (Kd.int .i64) _ _ _ (-1) [.int .i64 (-1)] from rfl) (Reps.none _ _))); intro v118 w77 ho78 hb hg_ hnew_; clear hg_ hnew_; (first | rw [← Ny117.out] at ho78 | (simp only [Int.reduceToNat] at ho78; rw [← Ny117.out] at ho78)); have n0_ := Aside0.mk (Kd.R_lower ho78 (below_size (by repeat (first | (with_reducible first | exact HB.out | apply below_alloc | apply pw_below_drewN | apply below_drew1) | exact HB.out)))); have n1_ := Aside0.mk (below_step (by repeat (first | (with_reducible first | exact HB.out | apply below_alloc | apply pw_below_drewN | apply below_drew1) | exact HB.out)) hb); clear HB; have HO119 := n0_; have HB := n1_; clear n0_ n1_; clear hb ho78) | ((with_reducible refine gate_dst (N := 5) rfl ?_); (try (refine gate_guard (by rfl) ?_; dsimp only)); refine Kd.R_lit (Kd.int .i64) _ 3 ?hg (N := 5) ?hd (xs := ([0] : List Int)) (inner := [.int .i64 0]) (ok := fun _ => True) (okp := fun _ => True) ?hr ?hp (fun _ hk => hk) trivial (Below.refl _ _) (Nat.le_refl _) (by simp) ?_; (case hd => rfl); (case hg => rfl); (case hr => first | (go_simp; done) | (go_simp; rfl)); (case hp => exact (Reps.one (show Kd.M (Kd.int .i64) _ _ _ 0 [.int .i64 0] from rfl) (Reps.none _ _))); intro v121 w79 ho80 hb hg_ hnew_; clear hg_ hnew_; (first | rw [← Ny120.out] at ho80 | (simp only [Int.reduceToNat] at ho80; rw [← Ny120.out] at ho80)); have n0_ := Aside0.mk (Kd.R_elder' (by (with_reducible repeat (first | apply Kd.R_alloc | apply Kd.R_drewN | apply Kd.R_drew)); exact HO119.out) (Kd.R_base ho80) hb); have n1_ := Aside0.mk (Kd.R_lower (Kd.R_new' ho80 (Kd.R_lt (by (with_reducible repeat (first | apply Kd.R_alloc | apply Kd.R_drewN | apply Kd.R_drew)); exact HO119.out))) (below_size (by repeat (first | (with_reducible first | exact HB.out | apply below_alloc | apply pw_below_drewN | apply below_drew1) | exact HB.out)))); have n2_ := Aside0.mk (below_step (by repeat (first | (with_reducible first | exact HB.out | apply below_alloc | apply pw_below_drewN | apply below_drew1) | exact HB.out)) hb); clear HO119; clear HB; have HO119 := n0_; have HO122 := n1_; have HB := n2_; clear n0_ n1_ n2_; clear hb ho80; obtain ⟨Ao81, co81, eo81⟩ := Kd.R_slice HO122.out; subst eo81; obtain ⟨Ao82, co82, eo82⟩ := Kd.R_slice HO119.out; subst eo82) | ((with_reducible refine gate_dst (N := 8) rfl ?_); (try (refine gate_guard (by rfl) ?_; dsimp only)); refine Kd.R_lit (Kd.int .i64) _ 3 ?hg (N := 8) ?hd (xs := ([0, 0] : List Int)) (inner := [.int .i64 0, .int .i64 0]) (ok := fun _ => True) (okp := fun _ => True) ?hr ?hp (fun _ hk => hk) trivial (Below.refl _ _) (Nat.le_refl _) (by simp) ?_; (case hd => rfl); (case hg => rfl); (case hr => first | (go_simp; done) | (go_simp; rfl)); (case hp => exact (Reps.one (show Kd.M (Kd.int .i64) _ _ _ 0 [.int .i64 0] from rfl) (Reps.one (show Kd.M (Kd.int .i64) _ _ _ 0 [.int .i64 0] from rfl) (Reps.none _ _)))); intro v124 w83 ho84 hb hg_ hnew_; clear hg_ hnew_; (first | rw [← Ny123.out] at ho84 | (simp only [Int.reduceToNat] at ho84; rw [← Ny123.out] at ho84)); have n0_ := Aside0.mk (Kd.R_elder' (by (with_reducible repeat (first | apply Kd.R_alloc | apply Kd.R_drewN | apply Kd.R_drew)); exact HO119.out) (Kd.R_base ho84) hb); have n1_ := Aside0.mk (Kd.R_elder' (by (with_reducible repeat (first | apply Kd.R_alloc | apply Kd.R_drewN | apply Kd.R_drew)); exact HO122.out) (Kd.R_base ho84) hb); have n2_ := Aside0.mk (Kd.R_lower (Kd.R_new' (Kd.R_new' ho84 (Kd.R_lt (by (with_reducible repeat (first | apply Kd.R_alloc | apply Kd.R_drewN | apply Kd.R_drew)); exact HO119.out))) (Kd.R_lt (by (with_reducible repeat (first | apply Kd.R_alloc | apply Kd.R_drewN | apply Kd.R_drew)); exact HO122.out))) (below_size (by repeat (first | (with_reducible first | exact HB.out | apply below_alloc | apply pw_below_drewN | apply below_drew1) | exact HB.out)))); have n3_ := Aside0.mk (below_step (by repeat (first | (with_reducible first | exact HB.out | apply below_alloc | apply pw_below_drewN | apply below_drew1) | exact HB.out)) hb); clear HO119; clear HO122; clear HB; have HO119 := n0_; have HO122 := n1_; have HO125 := n2_; have HB := n3_; clear n0_ n1_ n2_ n3_; clear hb ho84) | ((with_reducible refine gate_dst (N := 9) rfl ?_); (try (refine gate_guard (by rfl) ?_; dsimp only)); refine Kd.R_lit (Kd.int .i64) _ 3 ?hg (N := 9) ?hd (xs := ([0] : List Int)) (inner := [.int .i64 0]) (ok := fun _ => True) (okp := fun _ => True) ?hr ?hp (fun _ hk => hk) trivial (Below.refl _ _) (Nat.le_refl _) (by simp) ?_; (case hd => rfl); (case hg => rfl); (case hr => first | (go_simp; done) | (go_simp; rfl)); (case hp => exact (Reps.one (show Kd.M (Kd.int .i64) _ _ _ 0 [.int .i64 0] from rfl) (Reps.none _ _))); intro v127 w85 ho86 hb hg_ hnew_; clear hg_ hnew_; (first | rw [← Ny126.out] at ho86 | (simp only [Int.reduceToNat] at ho86; rw [← Ny126.out] at ho86)); have n0_ := Aside0.mk (Kd.R_elder' (by (with_reducible repeat (first | apply Kd.R_alloc | apply Kd.R_drewN | apply Kd.R_drew)); exact HO119.out) (Kd.R_base ho86) hb); have n1_ := Aside0.mk (Kd.R_elder' (by (with_reducible repeat (first | apply Kd.R_alloc | apply Kd.R_drewN | apply Kd.R_drew)); exact HO122.out) (Kd.R_base ho86) hb); have n2_ := Aside0.mk (Kd.R_elder' (by (with_reducible repeat (first | apply Kd.R_alloc | apply Kd.R_drewN | apply Kd.R_drew)); exact HO125.out) (Kd.R_base ho86) hb); have n3_ := Aside0.mk (Kd.R_lower (Kd.R_new' (Kd.R_new' (Kd.R_new' ho86 (Kd.R_lt (by (with_reducible repeat (first | apply Kd.R_alloc | apply Kd.R_drewN | apply Kd.R_drew)); exact HO119.out))) (Kd.R_lt (by (with_reducible repeat (first | apply Kd.R_alloc | apply Kd.R_drewN | apply Kd.R_drew)); exact HO122.out))) (Kd.R_lt (by (with_reducible repeat (first | apply Kd.R_alloc | apply Kd.R_drewN | apply Kd.R_drew)); exact HO125.out))) (below_size (by repeat (first | (with_reducible first | exact HB.out | apply below_alloc | apply pw_below_drewN | apply below_drew1) | exact HB.out)))); have n4_ := Aside0.mk (below_step (by repeat (first | (with_reducible first | exact HB.out | apply below_alloc | apply pw_below_drewN | apply below_drew1) | exact HB.out)) hb); clear HO119; clear HO122; clear HO125; clear HB; have HO119 := n0_; have HO122 := n1_; have HO125 := n2_; have HO128 := n3_; have HB := n4_; clear n0_ n1_ n2_ n3_ n4_; clear hb ho86; obtain ⟨Ao87, co87, eo87⟩ := Kd.R_slice HO128.out; subst eo87; obtain ⟨Ao88, co88, eo88⟩ := Kd.R_slice HO125.out; subst eo88) | ((with_reducible refine gate_dst (N := 12) rfl ?_); (try (refine gate_guard (by rfl) ?_; dsimp only)); refine Kd.N_lit k41 _ 41 ?hg (N' := 12) ?hd (xs := ([(⟨0, y117, (⟨8, y120⟩ : S39), 0⟩ : S41), (⟨0, y123, (⟨0, y126⟩ : S39), 0⟩ : S41)] : List (S41))) (inner := [.int .i64 0, .slice Ao82 y117.length co82, .int .i64 8, .slice Ao81 y120.length co81, .int .i64 0, .int .i64 0, .slice Ao88 y123.length co88, .int .i64 0, .slice Ao87 y126.length co87, .int .i64 0]) (ok := (fun _ => True)) (okp := (fun _ => True)) ?hr ?hp (fun _ hk => hk) ((show ∀ k_, w85.heap.size ≤ k_ → (fun _ => True) k_ from fun k_ hk => trivial) _ (Nat.le_refl _)) (Below.refl _ _) (Nat.le_refl _) (by simp) ?_; (case hd => rfl); (case hg => rfl); (case hr => first | (go_simp; done) | (go_simp; rfl)); (case hp => exact (Reps.c5 (show Kd.FK k41 _ _ (⟨0, y117, (⟨8, y120⟩ : S39), 0⟩ : S41) [.int .i64 0, .slice Ao82 y117.length co82, .int .i64 8, .slice Ao81 y120.length co81, .int .i64 0] from (k41_mkF _ _ (⟨0, y117, (⟨8, y120⟩ : S39), 0⟩ : S41) (Kd.R_reads' (Kd.R_mono (ok' := (fun _ => True)) (HO119.out) (fun k_ hk => trivial))).2.1 (Kd.R_F (Kd.R_mono (ok' := (fun _ => True)) (HO119.out) (fun k_ hk => trivial))) (Kd.R_reads' (Kd.R_mono (ok' := (fun _ => True)) (HO122.out) (fun k_ hk => trivial))).2.1 (Kd.R_F (Kd.R_mono (ok' := (fun _ => True)) (HO122.out) (fun k_ hk => trivial))))) (Reps.c5 (show Kd.FK k41 _ _ (⟨0, y123, (⟨0, y126⟩ : S39), 0⟩ : S41) [.int .i64 0, .slice Ao88 y123.length co88, .int .i64 0, .slice Ao87 y126.length co87, .int .i64 0] from (k41_mkF _ _ (⟨0, y123, (⟨0, y126⟩ : S39), 0⟩ : S41) (Kd.R_reads' (Kd.R_mono (ok' := (fun _ => True)) (HO125.out) (fun k_ hk => trivial))).2.1 (Kd.R_F (Kd.R_mono (ok' := (fun _ => True)) (HO125.out) (fun k_ hk => trivial))) (Kd.R_reads' (Kd.R_mono (ok' := (fun _ => True)) (HO128.out) (fun k_ hk => trivial))).2.1 (Kd.R_F (Kd.R_mono (ok' := (fun _ => True)) (HO128.out) (fun k_ hk => trivial))))) (Reps.none _ _)))); intro v130 w89 ho90 hb hg_ hnew_; clear hg_ hnew_; (first | rw [← Ny129.out] at ho90 | (simp only [Int.reduceToNat] at ho90; rw [← Ny129.out] at ho90)); have n0_ := Aside0.mk (Kd.N_lower ho90 (below_size (by repeat (first | (with_reducible first | exact HB.out | apply below_alloc | apply pw_below_drewN | apply below_drew1) | exact HB.out)))); have n1_ := Aside0.mk (below_step (by repeat (first | (with_reducible first | exact HB.out | apply below_alloc | apply pw_below_drewN | apply below_drew1) | exact HB.out)) hb); clear HB; clear HO119; clear HO122; clear HO125; clear HO128; have HO131 := n0_; have HB := n1_; clear n0_ n1_; clear hb ho90) | ((with_reducible refine gate_dst (N := 16) rfl ?_); (try (refine gate_guard (by rfl) ?_; dsimp only)); refine Kd.R_lit k31 _ 31 ?hg (N := 16) ?hd (xs := ([(⟨0, 1, 0, 0, 1⟩ : S31), (⟨1, 2, 0, 0, 1⟩ : S31), (⟨2, 3, 0, 0, 1⟩ : S31)] : List (S31))) (inner := [.int .i64 0, .int .i64 1, .int .i64 0, .int .i64 0, .int .i64 1, .int .i64 1, .int .i64 2, .int .i64 0, .int .i64 0, .int .i64 1, .int .i64 2, .int .i64 3, .int .i64 0, .int .i64 0, .int .i64 1]) (ok := fun _ => True) (okp := fun _ => True) ?hr ?hp (fun _ hk => hk) trivial (Below.refl _ _) (Nat.le_refl _) (by simp) ?_; (case hd => rfl); (case hg => rfl); (case hr => first | (go_simp; done) | (go_simp; rfl)); (case hp => exact (Reps.c5 (show Kd.M k31 _ _ _ (⟨0, 1, 0, 0, 1⟩ : S31) [.int .i64 0, .int .i64 1, .int .i64 0, .int .i64 0, .int .i64 1] from (k31_mkM _ _ _ (⟨0, 1, 0, 0, 1⟩ : S31) )) (Reps.c5 (show Kd.M k31 _ _ _ (⟨1, 2, 0, 0, 1⟩ : S31) [.int .i64 1, .int .i64 2, .int .i64 0, .int .i64 0, .int .i64 1] from (k31_mkM _ _ _ (⟨1, 2, 0, 0, 1⟩ : S31) )) (Reps.c5 (show Kd.M k31 _ _ _ (⟨2, 3, 0, 0, 1⟩ : S31) [.int .i64 2, .int .i64 3, .int .i64 0, .int .i64 0, .int .i64 1] from (k31_mkM _ _ _ (⟨2, 3, 0, 0, 1⟩ : S31) )) (Reps.none _ _))))); intro v133 w91 ho92 hb hg_ hnew_; clear hg_ hnew_; (first | rw [← Ny132.out] at ho92 | (simp only [Int.reduceToNat] at ho92; rw [← Ny132.out] at ho92)); have n0_ := Aside0.mk (Kd.N_elder' (by (with_reducible repeat (first | apply Kd.N_alloc | apply Kd.N_drewN | apply Kd.N_drew)); exact HO131.out) (Kd.R_base ho92) hb); have n1_ := Aside0.mk (Kd.R_lower ho92 (below_size (by repeat (first | (with_reducible first | exact HB.out | apply below_alloc | apply pw_below_drewN | apply below_drew1) | exact HB.out)))); have n2_ := Aside0.mk (below_step (by repeat (first | (with_reducible first | exact HB.out | apply below_alloc | apply pw_below_drewN | apply below_drew1) | exact HB.out)) hb); clear HO131; clear HB; have HO131 := n0_; have HO134 := n1_; have HB := n2_; clear n0_ n1_ n2_; clear hb ho92; obtain ⟨Ao93, co93, eo93⟩ := Kd.N_slice HO131.out; subst eo93; obtain ⟨Ao94, co94, eo94⟩ := Kd.R_slice HO134.out; subst eo94) | ((with_reducible refine gate_callee (f := 13) rfl ?_); refine goesL_ (some 19) rfl rfl Try.func13 (by kernel_rfl) rfl #[.slice Ao93 y129.length co93, .slice Ao94 y132.length co94, .int .i64 3] rfl (by (try simp only [List.map_toArray, List.map_cons, List.map_nil]); first | done | rfl | (simp only [List.length_drop, List.length_take]; rfl)) ?_; (with_reducible refine (chart_Spans.calls _ _ y129 _ _ y132 3 t135 _ ?side1 ?side2 ?side3 ?side4 A1.out).mono ?_); (case side1 => repeat (first | exact (Kd.N_reads' HO131.out).2.2 | (with_reducible refine Kd.C_alloc ?_ _) | (with_reducible refine Kd.C_drewN ?_ _) | (with_reducible refine Kd.C_drew ?_))); (case side2 => exact (Kd.N_reads' HO131.out).2.1); (case side3 => repeat (first | exact (Kd.R_reads' HO134.out).2.2 | (with_reducible refine Kd.C_alloc ?_ _) | (with_reducible refine Kd.C_drewN ?_ _) | (with_reducible refine Kd.C_drew ?_))); (case side4 => exact (Kd.R_reads' HO134.out).2.1); rintro e w95 ⟨v136, rfl, ho0, hb⟩; refine ⟨_, rfl, ?_⟩; have n0_ := Aside0.mk (Kd.N_elder' (by (with_reducible repeat (first | apply Kd.N_alloc | apply Kd.N_drewN | apply Kd.N_drew)); exact HO131.out) (Kd.R_base ho0) hb); have n1_ := Aside0.mk (Kd.R_below (by (with_reducible repeat (first | apply Kd.R_alloc | apply Kd.R_drewN | apply Kd.R_drew)); exact HO134.out) hb); have n2_ := Aside0.mk (Kd.R_lower ho0 (below_size (by repeat (first | (with_reducible first | exact HB.out | apply below_alloc | apply pw_below_drewN | apply below_drew1) | exact HB.out)))); have n3_ := Aside0.mk (below_step (by repeat (first | (with_reducible first | exact HB.out | apply below_alloc | apply pw_below_drewN | apply below_drew1) | exact HB.out)) hb); clear HO131; clear HO134; clear HB; have HO131 := n0_; have HO134 := n1_; have HO137 := n2_; have HB := n3_; clear n0_ n1_ n2_ n3_; (try clear hb); (try clear hb2); (try clear hk); (try clear hi); (try clear ho0)) | ((with_reducible refine gate_callee (f := 13) rfl ?_); refine goesL_ (some 20) rfl rfl Try.func13 (by kernel_rfl) rfl #[.slice none 0 0, .slice none 0 0, .int .i64 0] rfl (by (try simp only [List.map_toArray, List.map_cons, List.map_nil]); first | done | rfl | (simp only [List.length_drop, List.length_take]; rfl)) ?_; (refine (chart_Spans.calls _ _ ([] : List (S41)) _ _ ([] : List (S31)) 0 t138 _ ?side1 ?side2 ?side3 ?side4 A2.out).mono ?_); (case side1 => exact Kd.C_nil _ _); (case side2 => exact Nat.le_refl _); (case side3 => exact Kd.C_nil _ _); (case side4 => exact Nat.le_refl _); rintro e w96 ⟨v139, rfl, ho0, hb⟩; refine ⟨_, rfl, ?_⟩; have n0_ := Aside0.mk (Kd.N_elder' (by (with_reducible repeat (first | apply Kd.N_alloc | apply Kd.N_drewN | apply Kd.N_drew)); exact HO131.out) (Kd.R_base ho0) hb); have n1_ := Aside0.mk (Kd.R_below (by (with_reducible repeat (first | apply Kd.R_alloc | apply Kd.R_drewN | apply Kd.R_drew)); exact HO134.out) hb); have n2_ := Aside0.mk (Kd.R_elder' (by (with_reducible repeat (first | apply Kd.R_alloc | apply Kd.R_drewN | apply Kd.R_drew)); exact HO137.out) (Kd.R_base ho0) hb); have n3_ := Aside0.mk (Kd.R_lower (Kd.R_new' ho0 (Kd.R_lt (by (with_reducible repeat (first | apply Kd.R_alloc | apply Kd.R_drewN | apply Kd.R_drew)); exact HO137.out))) (below_size (by repeat (first | (with_reducible first | exact HB.out | apply below_alloc | apply pw_below_drewN | apply below_drew1) | exact HB.out)))); have n4_ := Aside0.mk (below_step (by repeat (first | (with_reducible first | exact HB.out | apply below_alloc | apply pw_below_drewN | apply below_drew1) | exact HB.out)) hb); clear HO131; clear HO134; clear HO137; clear HB; have HO131 := n0_; have HO134 := n1_; have HO137 := n2_; have HO140 := n3_; have HB := n4_; clear n0_ n1_ n2_ n3_ n4_; (try clear hb); (try clear hb2); (try clear hk); (try clear hi); (try clear ho0); obtain ⟨Ao97, co97, eo97⟩ := Kd.R_slice HO140.out; subst eo97))
    go_ret
    exact ⟨by first | rfl | (simp [errW_none, errW_some] <;> rfl) | (simp [*, errW_none, errW_some] <;> rfl), by repeat (first | (with_reducible first | exact HB.out | apply below_alloc | apply pw_below_drewN | apply below_drew1) | exact HB.out)⟩
end Go.Proofs.Ytjfbfhoipgldgaa.P
end
section
namespace Go.Proofs.Ytjfbfhoipgldgaa.P
open Go.RowKit Go.Proofs.YtjfbfhoipgldgaaW.PrintWords Go.Proofs.YtjfbfhoipgldgaaW.PrintLast Go.Proofs.YtjfbfhoipgldgaaW.PrintMore
attribute [local go_sem] max2_int min2_int max_two min_two max_three min_three max_four min_four   
set_option linter.unusedVariables false
set_option linter.unusedSimpArgs false
end Go.Proofs.Ytjfbfhoipgldgaa.P
end
section
namespace Go.Proofs.Ytjfbfhoipgldgaa.P
open Go.RowKit Go.Proofs.YtjfbfhoipgldgaaW.PrintWords Go.Proofs.YtjfbfhoipgldgaaW.PrintLast Go.Proofs.YtjfbfhoipgldgaaW.PrintMore
attribute [local go_sem] max2_int min2_int max_two min_two max_three min_three max_four min_four   
set_option linter.unusedVariables false
set_option linter.unusedSimpArgs false
section
variable {ops : Array Oper} {o : Oper} {a : Act} {Q : Exit → Act → World → Prop} {Kc : Act → World → Prop}
end
end Go.Proofs.Ytjfbfhoipgldgaa.P
end
section
namespace Go.Proofs.Ytjfbfhoipgldgaa.P
open Go.RowKit Go.Proofs.YtjfbfhoipgldgaaW.PrintWords Go.Proofs.YtjfbfhoipgldgaaW.PrintLast Go.Proofs.YtjfbfhoipgldgaaW.PrintMore
attribute [local go_sem] max2_int min2_int max_two min_two max_three min_three max_four min_four   
set_option linter.unusedVariables false
set_option linter.unusedSimpArgs false
theorem URows.swap {base g : Nat} {rows rows' : Nat → List Int} {W W1 : World} {vals : List Value} {f : Nat → Nat} {i : Nat} {v0 v1 : Value} (h : URows base g rows 20 W vals f) (hb : Below W.heap.size W W1) (hw : base ≤ W.heap.size) (hv : vals[i]? = some v0) (hrows : ∀ j, j ≠ i → rows' j = rows j)
    (hc : (v1 = v0 ∧ rows' i = rows i) ∨ Kd.R (Kd.int .i64) 3 W1 W.heap.size (fun _ => True) v1 (rows' i)) : ∃ f', URows base g rows' 20 (W1.setCell ⟨g, i, none⟩ v1) (vals.set i v1) f' := by
  have hi : i < vals.length := (List.getElem?_eq_some_iff.1 hv).1
  have hi20 : i < 20 := by have := h.len; omega
  have hgl := blk_lt h.blk
  refine ⟨fun k => if k < W.heap.size then f k else i, by rw [List.length_set]; exact h.len, ?_, h.ge, fun j hj => ?_, fun j hj hj2 => by omega⟩
  · refine blk_put (blk_below h.blk hb) i v1 ?_
    simp
  · by_cases e : j = i
    · subst e
      refine ⟨v1, by rw [List.getElem?_set_self hi], ?_⟩
      rcases hc with ⟨e1, e2⟩ | hR
      · obtain ⟨v, h1, h2⟩ := h.done j hj
        rw [hv] at h1
        obtain rfl := Option.some.inj h1
        subst e1
        rw [e2]
        refine Kd.R_far (Kd.R_mono (Kd.R_below (Kd.R_bound h2) hb) (fun k hk => ⟨hk.1.1, ?_⟩)) (fun k hk => hk.1) _
        rw [if_pos hk.2.2.1]
        exact hk.1.2
      · refine Kd.R_far (Kd.R_mono (Kd.R_lower (Kd.R_bound hR) hw) (fun k hk => ⟨?_, ?_⟩)) (fun k hk => hk.1) _
        · have := hk.2.1
          omega
        · rw [if_neg (by have := hk.2.1; omega)]
    · obtain ⟨v, h1, h2⟩ := h.done j hj
      refine ⟨v, by rw [List.getElem?_set_ne (fun h => e h.symm)]; exact h1, ?_⟩
      rw [hrows j e]
      refine Kd.R_far (Kd.R_mono (Kd.R_below (Kd.R_bound h2) hb) (fun k hk => ⟨hk.1.1, ?_⟩)) (fun k hk => hk.1) _
      rw [if_pos hk.2.2.1]
      exact hk.1.2
theorem URows.below {base g : Nat} {rows : Nat → List Int} {W W1 : World} {vals : List Value} {f : Nat → Nat} {i : Nat} (h : URows base g rows i W vals f) (hb : Below W.heap.size W W1) : URows base g rows i W1 vals f :=
  ⟨h.len, blk_below h.blk hb, h.ge, fun j hj => by obtain ⟨v, h1, h2⟩ := h.done j hj; exact ⟨v, h1, Kd.R_below h2 hb⟩, h.rest⟩
theorem URows.same {base g : Nat} {rows rows' : Nat → List Int} {W : World} {vals : List Value} {f : Nat → Nat} {i : Nat} (h : URows base g rows i W vals f) (he : ∀ j, j < i → rows' j = rows j) : URows base g rows' i W vals f :=
  ⟨h.len, h.blk, h.ge, fun j hj => by rw [he j hj]; exact h.done j hj, h.rest⟩
end Go.Proofs.Ytjfbfhoipgldgaa.P
end
section
namespace Go.Proofs.Ytjfbfhoipgldgaa.P
open Go.RowKit Go.Proofs.YtjfbfhoipgldgaaW.PrintWords Go.Proofs.YtjfbfhoipgldgaaW.PrintLast Go.Proofs.YtjfbfhoipgldgaaW.PrintMore
attribute [local go_sem] max2_int min2_int max_two min_two max_three min_three max_four min_four   
set_option linter.unusedVariables false
set_option linter.unusedSimpArgs false
end Go.Proofs.Ytjfbfhoipgldgaa.P
end
section
namespace Go.Proofs.Ytjfbfhoipgldgaa.P
open Go.RowKit Go.Proofs.YtjfbfhoipgldgaaW.PrintWords Go.Proofs.YtjfbfhoipgldgaaW.PrintLast Go.Proofs.YtjfbfhoipgldgaaW.PrintMore
attribute [local go_sem] max2_int min2_int max_two min_two max_three min_three max_four min_four   
set_option linter.unusedVariables false
set_option linter.unusedSimpArgs false
end Go.Proofs.Ytjfbfhoipgldgaa.P
end
section
namespace Go.Proofs.Ytjfbfhoipgldgaa.P
open Go.RowKit Go.Proofs.YtjfbfhoipgldgaaW.PrintWords Go.Proofs.YtjfbfhoipgldgaaW.PrintLast Go.Proofs.YtjfbfhoipgldgaaW.PrintMore
attribute [local go_sem] max2_int min2_int max_two min_two max_three min_three max_four min_four   
set_option linter.unusedVariables false
set_option linter.unusedSimpArgs false
section
variable (a0 : Int) (l1 : List Int) (a2 : Int) (l3 : List Int) (a4 : Int)
end
end Go.Proofs.Ytjfbfhoipgldgaa.P
end
section
namespace Go.Proofs.Ytjfbfhoipgldgaa.P
open Go.RowKit Go.Proofs.YtjfbfhoipgldgaaW.PrintWords Go.Proofs.YtjfbfhoipgldgaaW.PrintLast Go.Proofs.YtjfbfhoipgldgaaW.PrintMore
attribute [local go_sem] max2_int min2_int max_two min_two max_three min_three max_four min_four   
set_option linter.unusedVariables false
set_option linter.unusedSimpArgs false
end Go.Proofs.Ytjfbfhoipgldgaa.P
end
section
namespace Go.Proofs.Ytjfbfhoipgldgaa.P
open Go.RowKit Go.Proofs.YtjfbfhoipgldgaaW.PrintWords Go.Proofs.YtjfbfhoipgldgaaW.PrintLast Go.Proofs.YtjfbfhoipgldgaaW.PrintMore
attribute [local go_sem] max2_int min2_int max_two min_two max_three min_three max_four min_four   
set_option linter.unusedVariables false
set_option linter.unusedSimpArgs false
end Go.Proofs.Ytjfbfhoipgldgaa.P
end
section
namespace Go.Proofs.Ytjfbfhoipgldgaa.P
open Go.RowKit Go.Proofs.YtjfbfhoipgldgaaW.PrintWords Go.Proofs.YtjfbfhoipgldgaaW.PrintLast Go.Proofs.YtjfbfhoipgldgaaW.PrintMore
attribute [local go_sem] max2_int min2_int max_two min_two max_three min_three max_four min_four   
set_option linter.unusedVariables false
set_option linter.unusedSimpArgs false
attribute [local go_sem high] eqA35
noncomputable def interlocutorlaw7_within.f (a0 : Int) (a1 : Int) : Option (Int) := if a1 = 0 then (none) else (if (Int.tmod a0 a1) < 0 then (some (wrap64 ((Int.tmod a0 a1) + a1))) else (some (Int.tmod a0 a1)))
set_option maxHeartbeats 8000000 in
set_option maxRecDepth 100000 in
theorem interlocutorlaw7_within.calls (a0 : Int) (a1 : Int) (r : Int) (w : World) (h : interlocutorlaw7_within.f a0 a1 = some r) :
    Calls Try.prog 12 #[.int .i64 a0, .int .i64 a1] w fun e w' => e = .returned (.int .i64 r) ∧ Drawn0 w w' := by
  have H : (if a1 = 0 then (none) else (if (Int.tmod a0 a1) < 0 then (some (wrap64 ((Int.tmod a0 a1) + a1))) else (some (Int.tmod a0 a1)))) = some r := h
  clear h
  by_cases c3 : a1 = 0
  · rw [if_pos c3] at H
    exact absurd H (by simp)
  · rw [if_neg c3] at H
    have c3b0 : (a1 == 0) = false := beq_eq_false_iff_ne.mpr c3
    have c3b1 : (a1 != 0) = true := bne_iff_ne.mpr c3
    by_cases c4 : (Int.tmod a0 a1) < 0
    · rw [if_pos c4] at H
      have c4b0 : decide ((Int.tmod a0 a1) < 0) = true := decide_eq_true c4
      clear c4
      obtain rfl := Option.some.inj H
      go_enter Try.func12, Try.ntmps12
      go_wp2
      go_ret
      exact ⟨by first | rfl | (simp; done) | (simp [*]; done), by repeat (first | exact Drawn0.refl _ | apply Drawn0.step)⟩
    · rw [if_neg c4] at H
      have c4b0 : decide ((Int.tmod a0 a1) < 0) = false := decide_eq_false c4
      clear c4
      obtain rfl := Option.some.inj H
      go_enter Try.func12, Try.ntmps12
      go_wp2
      go_ret
      exact ⟨by first | rfl | (simp; done) | (simp [*]; done), by repeat (first | exact Drawn0.refl _ | apply Drawn0.step)⟩
end Go.Proofs.Ytjfbfhoipgldgaa.P
end
section
namespace Go.Proofs.Ytjfbfhoipgldgaa.P
open Go.RowKit Go.Proofs.YtjfbfhoipgldgaaW.PrintWords Go.Proofs.YtjfbfhoipgldgaaW.PrintLast Go.Proofs.YtjfbfhoipgldgaaW.PrintMore
attribute [local go_sem] max2_int min2_int max_two min_two max_three min_three max_four min_four   
set_option linter.unusedVariables false
set_option linter.unusedSimpArgs false
attribute [local go_sem high] eqA35
mutual
noncomputable def interlocutorlaw7_ChartWords.l0 : Nat → Int → Int → List (S31) → Int → Option (Bool)
  | 0, _, _, _, _ => none
  | k + 1, x5, x6, x7, x8 => if x8 < x5 then (if x7.length < 3518437208883 then (interlocutorlaw7_ChartWords.l0 k x5 x6 (x7 ++ [(⟨0, 1, 1, x8, 0⟩ : S31)]) (wrap64 (x8 + 1))) else (none)) else (interlocutorlaw7_ChartWords.l1 k x5 x6 x7 0)
noncomputable def interlocutorlaw7_ChartWords.l1 : Nat → Int → Int → List (S31) → Int → Option (Bool)
  | 0, _, _, _, _ => none
  | k + 1, x5, x6, x7, x9 => if x9 < x6 then (if x7.length < 3518437208883 then (interlocutorlaw7_ChartWords.l1 k x5 x6 (x7 ++ [(⟨1, 2, 2, x9, 0⟩ : S31)]) (wrap64 (x9 + 1))) else (none)) else ((some (([(⟨0, (([(-2), (-3)] : List Int)), (⟨0, (([0] : List Int))⟩ : S39), 0⟩ : S41)] : List (S41)) : List (S41))).bind fun y304 => ((chart_Count.f y304 x7 0 0 2 1000).bind fun t307 => (if t307 = (wrap64 (x5 * x6)) then ((chart_Spans.f y304 x7 2).bind fun t308 => (some (((t308.length : Int) == 1) == (decide ((wrap64 (x5 * x6)) > 0))))) else (some false))))
end
noncomputable def interlocutorlaw7_ChartWords.f (k : Nat) (a0 : Int) (a1 : Int) : Option (Bool) := (interlocutorlaw7_known.f).bind fun t289 => (if t289 = true then ((interlocutorlaw7_within.f a0 12).bind fun t290 => ((interlocutorlaw7_within.f a1 12).bind fun t291 => (interlocutorlaw7_ChartWords.l0 k t290 t291 ([] : List (S31)) 0))) else (some false))
theorem interlocutorlaw7_ChartWords.mono_l : ∀ k, (∀ y0 y1 y2 y3, LeO (interlocutorlaw7_ChartWords.l0 k y0 y1 y2 y3) (interlocutorlaw7_ChartWords.l0 (k + 1) y0 y1 y2 y3)) ∧ (∀ y0 y1 y2 y3, LeO (interlocutorlaw7_ChartWords.l1 k y0 y1 y2 y3) (interlocutorlaw7_ChartWords.l1 (k + 1) y0 y1 y2 y3))
  | 0 => ⟨fun _ _ _ _ r h => by simp [interlocutorlaw7_ChartWords.l0] at h, fun _ _ _ _ r h => by simp [interlocutorlaw7_ChartWords.l1] at h⟩
  | k + 1 => by
    obtain ⟨ih0, ih1⟩ := interlocutorlaw7_ChartWords.mono_l k
    refine ⟨?_, ?_⟩
    · intro y0 y1 y2 y3
      unfold interlocutorlaw7_ChartWords.l0
      repeat' first
      | (with_reducible exact ih0 _ _ _ _)
      | (with_reducible exact ih1 _ _ _ _)
      | (with_reducible exact LeO.refl _)
      | (with_reducible exact LeO.none _)
      | (with_reducible refine LeO.ite ?_ ?_)
      | (with_reducible refine LeO.bind ?_ (fun _ => ?_))
      | exact ih0 _ _ _ _
      | exact ih1 _ _ _ _
      | exact LeO.none _
      | refine LeO.ite ?_ ?_
      | refine LeO.bind ?_ (fun _ => ?_)
    · intro y0 y1 y2 y3
      unfold interlocutorlaw7_ChartWords.l1
      repeat' first
      | (with_reducible exact ih0 _ _ _ _)
      | (with_reducible exact ih1 _ _ _ _)
      | (with_reducible exact LeO.refl _)
      | (with_reducible exact LeO.none _)
      | (with_reducible refine LeO.ite ?_ ?_)
      | (with_reducible refine LeO.bind ?_ (fun _ => ?_))
      | exact ih0 _ _ _ _
      | exact ih1 _ _ _ _
      | exact LeO.none _
      | refine LeO.ite ?_ ?_
      | refine LeO.bind ?_ (fun _ => ?_)
theorem interlocutorlaw7_ChartWords.mono : ∀ a0 a1 k, LeO (interlocutorlaw7_ChartWords.f k a0 a1) (interlocutorlaw7_ChartWords.f (k + 1) a0 a1) := by
  intro a0 a1 k
  obtain ⟨ih0, ih1⟩ := interlocutorlaw7_ChartWords.mono_l k
  unfold interlocutorlaw7_ChartWords.f
  repeat' first
      | (with_reducible exact ih0 _ _ _ _)
      | (with_reducible exact ih1 _ _ _ _)
      | (with_reducible exact LeO.refl _)
      | (with_reducible exact LeO.none _)
      | (with_reducible refine LeO.ite ?_ ?_)
      | (with_reducible refine LeO.bind ?_ (fun _ => ?_))
      | exact ih0 _ _ _ _
      | exact ih1 _ _ _ _
      | exact LeO.none _
      | refine LeO.ite ?_ ?_
      | refine LeO.bind ?_ (fun _ => ?_)
set_option maxHeartbeats 8000000 in
set_option maxRecDepth 100000 in
theorem interlocutorlaw7_ChartWords.calls (k : Nat) (a0 : Int) (a1 : Int) (r : Bool) (w : World) (h : interlocutorlaw7_ChartWords.f k a0 a1 = some r) :
    Calls Try.prog 7 #[.int .i64 a0, .int .i64 a1] w fun e w' => e = .returned (.bool r) ∧ Below w.heap.size w w' := by
  have hu31 := Try.underlying31
  have hu39 := Try.underlying39
  have hu41 := Try.underlying41
  have HB := Aside0.mk (Below.refl w.heap.size w)
  have H : ((interlocutorlaw7_known.f).bind fun t289 => (if t289 = true then ((interlocutorlaw7_within.f a0 12).bind fun t290 => ((interlocutorlaw7_within.f a1 12).bind fun t291 => (interlocutorlaw7_ChartWords.l0 k t290 t291 ([] : List (S31)) 0))) else (some false))) = some r := h
  clear h
  replace H := Option.bind_eq_some_iff.mp H
  obtain ⟨t289, A30, H⟩ := H
  replace H : (if t289 = true then ((interlocutorlaw7_within.f a0 12).bind fun t290 => ((interlocutorlaw7_within.f a1 12).bind fun t291 => (interlocutorlaw7_ChartWords.l0 k t290 t291 ([] : List (S31)) 0))) else (some false)) = some r := H
  have A3 := Aside0.mk A30
  clear A30
  by_cases c4 : t289 = true
  · subst c4
    have H1 : ((interlocutorlaw7_within.f a0 12).bind fun t290 => ((interlocutorlaw7_within.f a1 12).bind fun t291 => (interlocutorlaw7_ChartWords.l0 k t290 t291 ([] : List (S31)) 0))) = some r := by rw [if_pos rfl] at H; exact H
    clear H
    have H := H1
    clear H1
    replace H := Option.bind_eq_some_iff.mp H
    obtain ⟨t290, A50, H⟩ := H
    replace H : ((interlocutorlaw7_within.f a1 12).bind fun t291 => (interlocutorlaw7_ChartWords.l0 k t290 t291 ([] : List (S31)) 0)) = some r := H
    have A5 := Aside0.mk A50
    clear A50
    replace H := Option.bind_eq_some_iff.mp H
    obtain ⟨t291, A60, H⟩ := H
    replace H : (interlocutorlaw7_ChartWords.l0 k t290 t291 ([] : List (S31)) 0) = some r := H
    have A6 := Aside0.mk A60
    clear A60
    have H' := Aside0.mk H
    clear H
    go_enter Try.func7, Try.ntmps7
    go_wp2_with (first | ((with_reducible refine gate_callee (f := 9) rfl ?_); refine goesL_ (some 11) rfl rfl Try.func9 (by kernel_rfl) rfl #[] rfl (by (try simp only [List.map_toArray, List.map_cons, List.map_nil]); first | done | rfl | (simp only [List.length_drop, List.length_take]; rfl)) ?_; (with_reducible refine (interlocutorlaw7_known.calls  true _ A3.out).mono ?_); rintro e w7 ⟨rfl, hb⟩; refine ⟨_, rfl, ?_⟩; have n0_ := Aside0.mk (below_step (by repeat (first | (with_reducible first | exact HB.out | apply below_alloc | apply pw_below_drewN | apply below_drew1) | exact HB.out)) hb); clear HB; have HB := n0_; clear n0_; (try clear hb); (try clear hb2); (try clear hk); (try clear hi)) | ((with_reducible refine gate_callee (f := 12) rfl ?_); refine goesL_ (some 14) rfl rfl Try.func12 (by kernel_rfl) rfl #[.int .i64 a0, .int .i64 12] rfl (by (try simp only [List.map_toArray, List.map_cons, List.map_nil]); first | done | rfl | (simp only [List.length_drop, List.length_take]; rfl)) ?_; (with_reducible refine (interlocutorlaw7_within.calls a0 12 t290 _ A5.out).mono ?_); rintro e w' ⟨rfl, ⟨nd, rfl⟩⟩; refine ⟨_, rfl, ?_⟩) | ((with_reducible refine gate_callee (f := 12) rfl ?_); refine goesL_ (some 16) rfl rfl Try.func12 (by kernel_rfl) rfl #[.int .i64 a1, .int .i64 12] rfl (by (try simp only [List.map_toArray, List.map_cons, List.map_nil]); first | done | rfl | (simp only [List.length_drop, List.length_take]; rfl)) ?_; (with_reducible refine (interlocutorlaw7_within.calls a1 12 t291 _ A6.out).mono ?_); rintro e w' ⟨rfl, ⟨nd, rfl⟩⟩; refine ⟨_, rfl, ?_⟩))
    go_loopg [7, 8] k (fun kq v7 v8 w' => ∃ (x7_1 : List (S31)) (x8_1 : Int), v8 = .int .i64 x8_1 ∧ Aside0 (interlocutorlaw7_ChartWords.l0 kq t290 t291 x7_1 x8_1 = some r) ∧ Aside0 (kq ≤ k) ∧ Aside0 (Kd.R k31 31 w' w.heap.size (fun _ => True) v7 x7_1) ∧ Aside0 (Below w.heap.size w w'))
    case atStart => exact ⟨(([] : List (S31))), (0), (by first | rfl | (simp; done) | (simp [*]; done)), H', ⟨Nat.le_refl _⟩, ⟨by first | exact Kd.R_nil _ _ _ _ _ | exact Kd.N_nil _ _ _ _ _ | exact Kd.V_nil _ _ _ _ _ | exact Kd.Q_nil _ _ _ _ _ | exact Kd.S_nil _ _ _ _ _⟩, ⟨by repeat (first | (with_reducible first | exact HB.out | apply below_alloc | apply pw_below_drewN | apply below_drew1) | exact HB.out)⟩⟩
    case round =>
      clear H'
      try clear c1
      try clear p2
      try clear c4
      try clear c7
      obtain ⟨x7_1, x8_1, rfl, HA, HK1, HO_7, HB⟩ := hrel
      cases gk with
      | zero => exact absurd HA.out (by simp [interlocutorlaw7_ChartWords.l0])
      | succ k1 =>
        have H := HA.out
        clear HA
        simp only [interlocutorlaw7_ChartWords.l0] at H
        by_cases c8 : x8_1 < t290
        · rw [if_pos c8] at H
          have c8b0 : decide (x8_1 < t290) = true := decide_eq_true c8
          clear c8
          by_cases c9 : x7_1.length < 3518437208883
          · rw [if_pos c9] at H
            have LMc9 := Aside0.mk c9
            clear c9
            obtain ⟨y292, hy292⟩ : ∃ y_ : List (S31), y_ = (x7_1 ++ [(⟨0, 1, 1, x8_1, 0⟩ : S31)]) := ⟨_, rfl⟩
            replace H : (interlocutorlaw7_ChartWords.l0 k1 t290 t291 y292 (wrap64 (x8_1 + 1))) = some r := by first | (rw [hy292]; with_reducible exact H) | (have H2_ := (Option.bind_some _ _).symm.trans H; rw [hy292]; with_reducible exact H2_) | (have H2_ := (Option.bind_some _ _).symm.trans H; with_reducible exact H2_) | with_reducible exact H | (rw [hy292]; exact H) | exact H
            have Ny292 := Aside0.mk hy292
            clear hy292
            have H' := Aside0.mk H
            clear H
            go_wp2_with (first | ((with_reducible refine gate_builtin (b := .append) (xs := #[.tmp 22, .tmp 25]) rfl ?_); (try (refine gate_guard (by rfl) ?_; dsimp only)); at_builtin; refine Kd.R_append k31 (w0 := w) w.heap.size rfl (.tmp 22) (.tmp 25) 28 31 (.agg #[(.int .i64 0), (.int .i64 0), (.int .i64 0), (.int .i64 0), (.int .i64 0)]) 40 rfl Try.underlying28 info31 rfl (by decide) (by omega) u7 x7_1 (⟨0, 1, 1, x8_1, 0⟩ : S31) [.int .i64 0, .int .i64 1, .int .i64 1, .int .i64 x8_1, .int .i64 0] (fun _ => True) (fun _ => False) rfl rfl ?aP (fun _ hk => hk.elim) ?aF ?aO ?aB ?aS ?aL ?_; (case aP => exact k31_mkM _ _ _ (⟨0, 1, 1, x8_1, 0⟩ : S31)); (case aB => exact (by repeat (first | (with_reducible first | exact HB.out | apply below_alloc | apply pw_below_drewN | apply below_drew1) | exact HB.out))); (case aF => exact (fun _ _ => trivial)); (case aO => exact (by (with_reducible repeat (first | apply Kd.R_alloc | apply Kd.R_drewN | apply Kd.R_drew)); exact HO_7.out)); (case aS => exact (below_size (by repeat (first | (with_reducible first | exact HB.out | apply below_alloc | apply pw_below_drewN | apply below_drew1) | exact HB.out)))); (case aL => have := LMc9.out; omega); intro v293 w10 ho hb hg hat; rw [← Ny292.out] at ho; have n0_ := Aside0.mk (hb); have n1_ := Aside0.mk (ho); clear HB; clear HO_7; have HB := n0_; have HO294 := n1_; clear n0_ n1_; clear ho hb hg hat))
            go_roundg k1
            case measure => have := HK1.out; omega
            case rel => exact ⟨(y292), (wrap64 (x8_1 + 1)), (by first | rfl | (simp; done) | (simp [*]; done)), H', ⟨by have := HK1.out; omega⟩, ⟨by (with_reducible repeat (first | apply Kd.R_alloc | apply Kd.R_drewN | apply Kd.R_drew)); exact HO294.out⟩, ⟨by repeat (first | (with_reducible first | exact HB.out | apply below_alloc | apply pw_below_drewN | apply below_drew1) | exact HB.out)⟩⟩
          · rw [if_neg c9] at H
            exact absurd H (by simp)
        · rw [if_neg c8] at H
          have c8b0 : decide (x8_1 < t290) = false := decide_eq_false c8
          clear c8
          have H' := Aside0.mk H
          clear H
          go_wp2
          go_loopg [7, 9] k1 (fun kq v7 v9 w' => ∃ (x7_2 : List (S31)) (x9_2 : Int), v9 = .int .i64 x9_2 ∧ Aside0 (interlocutorlaw7_ChartWords.l1 kq t290 t291 x7_2 x9_2 = some r) ∧ Aside0 (kq ≤ k1) ∧ Aside0 (Kd.R k31 31 w' w.heap.size (fun _ => True) v7 x7_2) ∧ Aside0 (Below w.heap.size w w'))
          case atStart => exact ⟨(x7_1), (0), (by first | rfl | (simp; done) | (simp [*]; done)), H', ⟨Nat.le_refl _⟩, ⟨by (with_reducible repeat (first | apply Kd.R_alloc | apply Kd.R_drewN | apply Kd.R_drew)); exact HO_7.out⟩, ⟨by repeat (first | (with_reducible first | exact HB.out | apply below_alloc | apply pw_below_drewN | apply below_drew1) | exact HB.out)⟩⟩
          case round =>
            clear H'
            try clear c1
            try clear p2
            try clear c4
            try clear p6
            try clear c7
            try clear c8
            try clear c8b0
            try clear c9
            try clear p2
            obtain ⟨x7_2, x9_2, rfl, HA, HK2, HO_7, HB⟩ := hrel
            cases gk with
            | zero => exact absurd HA.out (by simp [interlocutorlaw7_ChartWords.l1])
            | succ k2 =>
              have H := HA.out
              clear HA
              simp only [interlocutorlaw7_ChartWords.l1] at H
              by_cases c11 : x9_2 < t291
              · rw [if_pos c11] at H
                have c11b0 : decide (x9_2 < t291) = true := decide_eq_true c11
                clear c11
                by_cases c12 : x7_2.length < 3518437208883
                · rw [if_pos c12] at H
                  have LMc12 := Aside0.mk c12
                  clear c12
                  obtain ⟨y295, hy295⟩ : ∃ y_ : List (S31), y_ = (x7_2 ++ [(⟨1, 2, 2, x9_2, 0⟩ : S31)]) := ⟨_, rfl⟩
                  replace H : (interlocutorlaw7_ChartWords.l1 k2 t290 t291 y295 (wrap64 (x9_2 + 1))) = some r := by first | (rw [hy295]; with_reducible exact H) | (have H2_ := (Option.bind_some _ _).symm.trans H; rw [hy295]; with_reducible exact H2_) | (have H2_ := (Option.bind_some _ _).symm.trans H; with_reducible exact H2_) | with_reducible exact H | (rw [hy295]; exact H) | exact H
                  have Ny295 := Aside0.mk hy295
                  clear hy295
                  have H' := Aside0.mk H
                  clear H
                  go_wp2_with (first | ((with_reducible refine gate_builtin (b := .append) (xs := #[.tmp 32, .tmp 35]) rfl ?_); (try (refine gate_guard (by rfl) ?_; dsimp only)); at_builtin; refine Kd.R_append k31 (w0 := w) w.heap.size rfl (.tmp 32) (.tmp 35) 28 31 (.agg #[(.int .i64 0), (.int .i64 0), (.int .i64 0), (.int .i64 0), (.int .i64 0)]) 40 rfl Try.underlying28 info31 rfl (by decide) (by omega) u7 x7_2 (⟨1, 2, 2, x9_2, 0⟩ : S31) [.int .i64 1, .int .i64 2, .int .i64 2, .int .i64 x9_2, .int .i64 0] (fun _ => True) (fun _ => False) rfl rfl ?aP (fun _ hk => hk.elim) ?aF ?aO ?aB ?aS ?aL ?_; (case aP => exact k31_mkM _ _ _ (⟨1, 2, 2, x9_2, 0⟩ : S31)); (case aB => exact (by repeat (first | (with_reducible first | exact HB.out | apply below_alloc | apply pw_below_drewN | apply below_drew1) | exact HB.out))); (case aF => exact (fun _ _ => trivial)); (case aO => exact (by (with_reducible repeat (first | apply Kd.R_alloc | apply Kd.R_drewN | apply Kd.R_drew)); exact HO_7.out)); (case aS => exact (below_size (by repeat (first | (with_reducible first | exact HB.out | apply below_alloc | apply pw_below_drewN | apply below_drew1) | exact HB.out)))); (case aL => have := LMc12.out; omega); intro v296 w13 ho hb hg hat; rw [← Ny295.out] at ho; have n0_ := Aside0.mk (hb); have n1_ := Aside0.mk (ho); clear HB; clear HO_7; have HB := n0_; have HO297 := n1_; clear n0_ n1_; clear ho hb hg hat))
                  go_roundg k2
                  case measure => have := HK1.out; have := HK2.out; omega
                  case rel => exact ⟨(y295), (wrap64 (x9_2 + 1)), (by first | rfl | (simp; done) | (simp [*]; done)), H', ⟨by have := HK1.out; have := HK2.out; omega⟩, ⟨by (with_reducible repeat (first | apply Kd.R_alloc | apply Kd.R_drewN | apply Kd.R_drew)); exact HO297.out⟩, ⟨by repeat (first | (with_reducible first | exact HB.out | apply below_alloc | apply pw_below_drewN | apply below_drew1) | exact HB.out)⟩⟩
                · rw [if_neg c12] at H
                  exact absurd H (by simp)
              · rw [if_neg c11] at H
                have c11b0 : decide (x9_2 < t291) = false := decide_eq_false c11
                clear c11
                obtain ⟨y298, hy298⟩ : ∃ y_ : List Int, y_ = (([(-2), (-3)] : List Int)) := ⟨_, rfl⟩
                replace H : ((some (([(⟨0, y298, (⟨0, (([0] : List Int))⟩ : S39), 0⟩ : S41)] : List (S41)) : List (S41))).bind fun y304 => ((chart_Count.f y304 x7_2 0 0 2 1000).bind fun t307 => (if t307 = (wrap64 (t290 * t291)) then ((chart_Spans.f y304 x7_2 2).bind fun t308 => (some (((t308.length : Int) == 1) == (decide ((wrap64 (t290 * t291)) > 0))))) else (some false)))) = some r := by first | (rw [hy298]; with_reducible exact H) | (have H2_ := (Option.bind_some _ _).symm.trans H; rw [hy298]; with_reducible exact H2_) | (have H2_ := (Option.bind_some _ _).symm.trans H; with_reducible exact H2_) | with_reducible exact H | (rw [hy298]; exact H) | exact H
                have Ny298 := Aside0.mk hy298
                clear hy298
                obtain ⟨y301, hy301⟩ : ∃ y_ : List Int, y_ = (([0] : List Int)) := ⟨_, rfl⟩
                replace H : ((some (([(⟨0, y298, (⟨0, y301⟩ : S39), 0⟩ : S41)] : List (S41)) : List (S41))).bind fun y304 => ((chart_Count.f y304 x7_2 0 0 2 1000).bind fun t307 => (if t307 = (wrap64 (t290 * t291)) then ((chart_Spans.f y304 x7_2 2).bind fun t308 => (some (((t308.length : Int) == 1) == (decide ((wrap64 (t290 * t291)) > 0))))) else (some false)))) = some r := by first | (rw [hy301]; with_reducible exact H) | (have H2_ := (Option.bind_some _ _).symm.trans H; rw [hy301]; with_reducible exact H2_) | (have H2_ := (Option.bind_some _ _).symm.trans H; with_reducible exact H2_) | with_reducible exact H | (rw [hy301]; exact H) | exact H
                have Ny301 := Aside0.mk hy301
                clear hy301
                obtain ⟨y304, hy304⟩ : ∃ y_ : List (S41), y_ = (([(⟨0, y298, (⟨0, y301⟩ : S39), 0⟩ : S41)] : List (S41))) := ⟨_, rfl⟩
                replace H : ((chart_Count.f y304 x7_2 0 0 2 1000).bind fun t307 => (if t307 = (wrap64 (t290 * t291)) then ((chart_Spans.f y304 x7_2 2).bind fun t308 => (some (((t308.length : Int) == 1) == (decide ((wrap64 (t290 * t291)) > 0))))) else (some false))) = some r := by first | (rw [hy304]; with_reducible exact H) | (have H2_ := (Option.bind_some _ _).symm.trans H; rw [hy304]; with_reducible exact H2_) | (have H2_ := (Option.bind_some _ _).symm.trans H; with_reducible exact H2_) | with_reducible exact H | (rw [hy304]; exact H) | exact H
                have Ny304 := Aside0.mk hy304
                clear hy304
                replace H := Option.bind_eq_some_iff.mp H
                obtain ⟨t307, A140, H⟩ := H
                replace H : (if t307 = (wrap64 (t290 * t291)) then ((chart_Spans.f y304 x7_2 2).bind fun t308 => (some (((t308.length : Int) == 1) == (decide ((wrap64 (t290 * t291)) > 0))))) else (some false)) = some r := H
                have A14 := Aside0.mk A140
                clear A140
                by_cases c15 : t307 = (wrap64 (t290 * t291))
                · rw [if_pos c15] at H
                  have c15b0 : (t307 == (wrap64 (t290 * t291))) = true := beq_iff_eq.mpr c15
                  have c15b1 : (t307 != (wrap64 (t290 * t291))) = false := bne_eq_false_iff_eq.mpr c15
                  clear c15
                  replace H := Option.bind_eq_some_iff.mp H
                  obtain ⟨t308, A160, H⟩ := H
                  replace H : (some (((t308.length : Int) == 1) == (decide ((wrap64 (t290 * t291)) > 0)))) = some r := H
                  have A16 := Aside0.mk A160
                  clear A160
                  obtain rfl := Option.some.inj H
                  go_wp2_with (first | ((with_reducible refine gate_dst (N := 37) rfl ?_); (try (refine gate_guard (by rfl) ?_; dsimp only)); refine Kd.R_lit (Kd.int .i64) _ 3 ?hg (N := 37) ?hd (xs := ([(-2), (-3)] : List Int)) (inner := [.int .i64 (-2), .int .i64 (-3)]) (ok := fun _ => True) (okp := fun _ => True) ?hr ?hp (fun _ hk => hk) trivial (Below.refl _ _) (Nat.le_refl _) (by simp) ?_; (case hd => rfl); (case hg => rfl); (case hr => first | (go_simp; done) | (go_simp; rfl)); (case hp => exact (Reps.one (show Kd.M (Kd.int .i64) _ _ _ (-2) [.int .i64 (-2)] from rfl) (Reps.one (show Kd.M (Kd.int .i64) _ _ _ (-3) [.int .i64 (-3)] from rfl) (Reps.none _ _)))); intro v299 w17 ho18 hb hg_ hnew_; clear hg_ hnew_; (first | rw [← Ny298.out] at ho18 | (simp only [Int.reduceToNat] at ho18; rw [← Ny298.out] at ho18)); have n0_ := Aside0.mk (Kd.R_below (by (with_reducible repeat (first | apply Kd.R_alloc | apply Kd.R_drewN | apply Kd.R_drew)); exact HO_7.out) hb); have n1_ := Aside0.mk (Kd.R_lower ho18 (below_size (by repeat (first | (with_reducible first | exact HB.out | apply below_alloc | apply pw_below_drewN | apply below_drew1) | exact HB.out)))); have n2_ := Aside0.mk (below_step (by repeat (first | (with_reducible first | exact HB.out | apply below_alloc | apply pw_below_drewN | apply below_drew1) | exact HB.out)) hb); clear HO_7; clear HB; have HO_7 := n0_; have HO300 := n1_; have HB := n2_; clear n0_ n1_ n2_; clear hb ho18) | ((with_reducible refine gate_dst (N := 38) rfl ?_); (try (refine gate_guard (by rfl) ?_; dsimp only)); refine Kd.R_lit (Kd.int .i64) _ 3 ?hg (N := 38) ?hd (xs := ([0] : List Int)) (inner := [.int .i64 0]) (ok := fun _ => True) (okp := fun _ => True) ?hr ?hp (fun _ hk => hk) trivial (Below.refl _ _) (Nat.le_refl _) (by simp) ?_; (case hd => rfl); (case hg => rfl); (case hr => first | (go_simp; done) | (go_simp; rfl)); (case hp => exact (Reps.one (show Kd.M (Kd.int .i64) _ _ _ 0 [.int .i64 0] from rfl) (Reps.none _ _))); intro v302 w19 ho20 hb hg_ hnew_; clear hg_ hnew_; (first | rw [← Ny301.out] at ho20 | (simp only [Int.reduceToNat] at ho20; rw [← Ny301.out] at ho20)); have n0_ := Aside0.mk (Kd.R_below (by (with_reducible repeat (first | apply Kd.R_alloc | apply Kd.R_drewN | apply Kd.R_drew)); exact HO_7.out) hb); have n1_ := Aside0.mk (Kd.R_elder' (by (with_reducible repeat (first | apply Kd.R_alloc | apply Kd.R_drewN | apply Kd.R_drew)); exact HO300.out) (Kd.R_base ho20) hb); have n2_ := Aside0.mk (Kd.R_lower (Kd.R_new' ho20 (Kd.R_lt (by (with_reducible repeat (first | apply Kd.R_alloc | apply Kd.R_drewN | apply Kd.R_drew)); exact HO300.out))) (below_size (by repeat (first | (with_reducible first | exact HB.out | apply below_alloc | apply pw_below_drewN | apply below_drew1) | exact HB.out)))); have n3_ := Aside0.mk (below_step (by repeat (first | (with_reducible first | exact HB.out | apply below_alloc | apply pw_below_drewN | apply below_drew1) | exact HB.out)) hb); clear HO_7; clear HO300; clear HB; have HO_7 := n0_; have HO300 := n1_; have HO303 := n2_; have HB := n3_; clear n0_ n1_ n2_ n3_; clear hb ho20; obtain ⟨Ao21, co21, eo21⟩ := Kd.R_slice HO303.out; subst eo21; obtain ⟨Ao22, co22, eo22⟩ := Kd.R_slice HO300.out; subst eo22) | ((with_reducible refine gate_dst (N := 41) rfl ?_); (try (refine gate_guard (by rfl) ?_; dsimp only)); refine Kd.N_lit k41 _ 41 ?hg (N' := 41) ?hd (xs := ([(⟨0, y298, (⟨0, y301⟩ : S39), 0⟩ : S41)] : List (S41))) (inner := [.int .i64 0, .slice Ao22 y298.length co22, .int .i64 0, .slice Ao21 y301.length co21, .int .i64 0]) (ok := (fun k_ => some k_ ≠ (u7 : Value).ownBlock)) (okp := (fun k_ => some k_ ≠ (u7 : Value).ownBlock)) ?hr ?hp (fun _ hk => hk) ((show ∀ k_, w19.heap.size ≤ k_ → (fun k_ => some k_ ≠ (u7 : Value).ownBlock) k_ from fun k_ hk => Kd.fresh' (Kd.R_lt (by (with_reducible repeat (first | apply Kd.R_alloc | apply Kd.R_drewN | apply Kd.R_drew)); exact HO_7.out)) k_ hk) _ (Nat.le_refl _)) (Below.refl _ _) (Nat.le_refl _) (by simp) ?_; (case hd => rfl); (case hg => rfl); (case hr => first | (go_simp; done) | (go_simp; rfl)); (case hp => exact (Reps.c5 (show Kd.FK k41 _ _ (⟨0, y298, (⟨0, y301⟩ : S39), 0⟩ : S41) [.int .i64 0, .slice Ao22 y298.length co22, .int .i64 0, .slice Ao21 y301.length co21, .int .i64 0] from (k41_mkF _ _ (⟨0, y298, (⟨0, y301⟩ : S39), 0⟩ : S41) (Kd.R_reads' (Kd.R_mono (ok' := (fun k_ => some k_ ≠ (u7 : Value).ownBlock)) (Kd.R_apart' (HO300.out) (Kd.R_typed HO_7.out) (by decide)) (fun k_ hk => hk.2))).2.1 (Kd.R_F (Kd.R_mono (ok' := (fun k_ => some k_ ≠ (u7 : Value).ownBlock)) (Kd.R_apart' (HO300.out) (Kd.R_typed HO_7.out) (by decide)) (fun k_ hk => hk.2))) (Kd.R_reads' (Kd.R_mono (ok' := (fun k_ => some k_ ≠ (u7 : Value).ownBlock)) (Kd.R_apart' (HO303.out) (Kd.R_typed HO_7.out) (by decide)) (fun k_ hk => hk.2))).2.1 (Kd.R_F (Kd.R_mono (ok' := (fun k_ => some k_ ≠ (u7 : Value).ownBlock)) (Kd.R_apart' (HO303.out) (Kd.R_typed HO_7.out) (by decide)) (fun k_ hk => hk.2))))) (Reps.none _ _))); intro v305 w23 ho24 hb hg_ hnew_; clear hg_ hnew_; (first | rw [← Ny304.out] at ho24 | (simp only [Int.reduceToNat] at ho24; rw [← Ny304.out] at ho24)); have n0_ := Aside0.mk (Kd.R_below (by (with_reducible repeat (first | apply Kd.R_alloc | apply Kd.R_drewN | apply Kd.R_drew)); exact HO_7.out) hb); have n1_ := Aside0.mk (Kd.N_lower ho24 (below_size (by repeat (first | (with_reducible first | exact HB.out | apply below_alloc | apply pw_below_drewN | apply below_drew1) | exact HB.out)))); have n2_ := Aside0.mk (below_step (by repeat (first | (with_reducible first | exact HB.out | apply below_alloc | apply pw_below_drewN | apply below_drew1) | exact HB.out)) hb); clear HO_7; clear HB; clear HO300; clear HO303; have HO_7 := n0_; have HO306 := n1_; have HB := n2_; clear n0_ n1_ n2_; clear hb ho24; obtain ⟨Ao25, co25, eo25⟩ := Kd.N_slice HO306.out; subst eo25; obtain ⟨Ao26, co26, eo26⟩ := Kd.R_slice HO_7.out; subst eo26) | ((with_reducible refine gate_callee (f := 14) rfl ?_); refine goesL_ (some 44) rfl rfl Try.func14 (by kernel_rfl) rfl #[.slice Ao25 y304.length co25, .slice Ao26 x7_2.length co26, .int .i64 0, .int .i64 0, .int .i64 2, .int .i64 1000] rfl (by (try simp only [List.map_toArray, List.map_cons, List.map_nil]); first | done | rfl | (simp only [List.length_drop, List.length_take]; rfl)) ?_; (with_reducible refine (chart_Count.calls _ _ y304 _ _ x7_2 0 0 2 1000 t307 _ ?side1 ?side2 ?side3 ?side4 A14.out).mono ?_); (case side1 => repeat (first | exact (Kd.N_reads' HO306.out).2.2 | (with_reducible refine Kd.C_alloc ?_ _) | (with_reducible refine Kd.C_drewN ?_ _) | (with_reducible refine Kd.C_drew ?_))); (case side2 => exact (Kd.N_reads' HO306.out).2.1); (case side3 => repeat (first | exact (Kd.R_reads' HO_7.out).2.2 | (with_reducible refine Kd.C_alloc ?_ _) | (with_reducible refine Kd.C_drewN ?_ _) | (with_reducible refine Kd.C_drew ?_))); (case side4 => exact (Kd.R_reads' HO_7.out).2.1); rintro e w27 ⟨rfl, hb⟩; refine ⟨_, rfl, ?_⟩; have n0_ := Aside0.mk (Kd.R_below (by (with_reducible repeat (first | apply Kd.R_alloc | apply Kd.R_drewN | apply Kd.R_drew)); exact HO_7.out) hb); have n1_ := Aside0.mk (Kd.N_below (by (with_reducible repeat (first | apply Kd.N_alloc | apply Kd.N_drewN | apply Kd.N_drew)); exact HO306.out) hb); have n2_ := Aside0.mk (below_step (by repeat (first | (with_reducible first | exact HB.out | apply below_alloc | apply pw_below_drewN | apply below_drew1) | exact HB.out)) hb); clear HO_7; clear HO306; clear HB; have HO_7 := n0_; have HO306 := n1_; have HB := n2_; clear n0_ n1_ n2_; (try clear hb); (try clear hb2); (try clear hk); (try clear hi)) | (go_at_call 13; (with_reducible refine (chart_Spans.calls _ _ y304 _ _ x7_2 2 t308 _ ?side1 ?side2 ?side3 ?side4 A16.out).mono ?_); (case side1 => repeat (first | exact (Kd.N_reads' HO306.out).2.2 | (with_reducible refine Kd.C_alloc ?_ _) | (with_reducible refine Kd.C_drewN ?_ _) | (with_reducible refine Kd.C_drew ?_))); (case side2 => exact (Kd.N_reads' HO306.out).2.1); (case side3 => repeat (first | exact (Kd.R_reads' HO_7.out).2.2 | (with_reducible refine Kd.C_alloc ?_ _) | (with_reducible refine Kd.C_drewN ?_ _) | (with_reducible refine Kd.C_drew ?_))); (case side4 => exact (Kd.R_reads' HO_7.out).2.1); rintro e w28 ⟨v309, rfl, ho0, hb⟩; have n0_ := Aside0.mk (Kd.R_below (by (with_reducible repeat (first | apply Kd.R_alloc | apply Kd.R_drewN | apply Kd.R_drew)); exact HO_7.out) hb); have n1_ := Aside0.mk (Kd.N_elder' (by (with_reducible repeat (first | apply Kd.N_alloc | apply Kd.N_drewN | apply Kd.N_drew)); exact HO306.out) (Kd.R_base ho0) hb); have n2_ := Aside0.mk (Kd.R_lower ho0 (below_size (by repeat (first | (with_reducible first | exact HB.out | apply below_alloc | apply pw_below_drewN | apply below_drew1) | exact HB.out)))); have n3_ := Aside0.mk (below_step (by repeat (first | (with_reducible first | exact HB.out | apply below_alloc | apply pw_below_drewN | apply below_drew1) | exact HB.out)) hb); clear HO_7; clear HO306; clear HB; have HO_7 := n0_; have HO306 := n1_; have HO310 := n2_; have HB := n3_; clear n0_ n1_ n2_ n3_; (try clear hb); (try clear hb2); (try clear hk); (try clear hi); (try clear ho0); obtain ⟨Ao29, co29, eo29⟩ := Kd.R_slice HO310.out; subst eo29))
                  go_ret
                  exact ⟨by first | rfl | (simp [errW_none, errW_some] <;> rfl) | (simp [*, errW_none, errW_some] <;> rfl), by repeat (first | (with_reducible first | exact HB.out | apply below_alloc | apply pw_below_drewN | apply below_drew1) | exact HB.out)⟩
                · rw [if_neg c15] at H
                  have c15b0 : (t307 == (wrap64 (t290 * t291))) = false := beq_eq_false_iff_ne.mpr c15
                  have c15b1 : (t307 != (wrap64 (t290 * t291))) = true := bne_iff_ne.mpr c15
                  obtain rfl := Option.some.inj H
                  go_wp2_with (first | ((with_reducible refine gate_dst (N := 37) rfl ?_); (try (refine gate_guard (by rfl) ?_; dsimp only)); refine Kd.R_lit (Kd.int .i64) _ 3 ?hg (N := 37) ?hd (xs := ([(-2), (-3)] : List Int)) (inner := [.int .i64 (-2), .int .i64 (-3)]) (ok := fun _ => True) (okp := fun _ => True) ?hr ?hp (fun _ hk => hk) trivial (Below.refl _ _) (Nat.le_refl _) (by simp) ?_; (case hd => rfl); (case hg => rfl); (case hr => first | (go_simp; done) | (go_simp; rfl)); (case hp => exact (Reps.one (show Kd.M (Kd.int .i64) _ _ _ (-2) [.int .i64 (-2)] from rfl) (Reps.one (show Kd.M (Kd.int .i64) _ _ _ (-3) [.int .i64 (-3)] from rfl) (Reps.none _ _)))); intro v299 w30 ho31 hb hg_ hnew_; clear hg_ hnew_; (first | rw [← Ny298.out] at ho31 | (simp only [Int.reduceToNat] at ho31; rw [← Ny298.out] at ho31)); have n0_ := Aside0.mk (Kd.R_below (by (with_reducible repeat (first | apply Kd.R_alloc | apply Kd.R_drewN | apply Kd.R_drew)); exact HO_7.out) hb); have n1_ := Aside0.mk (Kd.R_lower ho31 (below_size (by repeat (first | (with_reducible first | exact HB.out | apply below_alloc | apply pw_below_drewN | apply below_drew1) | exact HB.out)))); have n2_ := Aside0.mk (below_step (by repeat (first | (with_reducible first | exact HB.out | apply below_alloc | apply pw_below_drewN | apply below_drew1) | exact HB.out)) hb); clear HO_7; clear HB; have HO_7 := n0_; have HO300 := n1_; have HB := n2_; clear n0_ n1_ n2_; clear hb ho31) | ((with_reducible refine gate_dst (N := 38) rfl ?_); (try (refine gate_guard (by rfl) ?_; dsimp only)); refine Kd.R_lit (Kd.int .i64) _ 3 ?hg (N := 38) ?hd (xs := ([0] : List Int)) (inner := [.int .i64 0]) (ok := fun _ => True) (okp := fun _ => True) ?hr ?hp (fun _ hk => hk) trivial (Below.refl _ _) (Nat.le_refl _) (by simp) ?_; (case hd => rfl); (case hg => rfl); (case hr => first | (go_simp; done) | (go_simp; rfl)); (case hp => exact (Reps.one (show Kd.M (Kd.int .i64) _ _ _ 0 [.int .i64 0] from rfl) (Reps.none _ _))); intro v302 w32 ho33 hb hg_ hnew_; clear hg_ hnew_; (first | rw [← Ny301.out] at ho33 | (simp only [Int.reduceToNat] at ho33; rw [← Ny301.out] at ho33)); have n0_ := Aside0.mk (Kd.R_below (by (with_reducible repeat (first | apply Kd.R_alloc | apply Kd.R_drewN | apply Kd.R_drew)); exact HO_7.out) hb); have n1_ := Aside0.mk (Kd.R_elder' (by (with_reducible repeat (first | apply Kd.R_alloc | apply Kd.R_drewN | apply Kd.R_drew)); exact HO300.out) (Kd.R_base ho33) hb); have n2_ := Aside0.mk (Kd.R_lower (Kd.R_new' ho33 (Kd.R_lt (by (with_reducible repeat (first | apply Kd.R_alloc | apply Kd.R_drewN | apply Kd.R_drew)); exact HO300.out))) (below_size (by repeat (first | (with_reducible first | exact HB.out | apply below_alloc | apply pw_below_drewN | apply below_drew1) | exact HB.out)))); have n3_ := Aside0.mk (below_step (by repeat (first | (with_reducible first | exact HB.out | apply below_alloc | apply pw_below_drewN | apply below_drew1) | exact HB.out)) hb); clear HO_7; clear HO300; clear HB; have HO_7 := n0_; have HO300 := n1_; have HO303 := n2_; have HB := n3_; clear n0_ n1_ n2_ n3_; clear hb ho33; obtain ⟨Ao34, co34, eo34⟩ := Kd.R_slice HO303.out; subst eo34; obtain ⟨Ao35, co35, eo35⟩ := Kd.R_slice HO300.out; subst eo35) | ((with_reducible refine gate_dst (N := 41) rfl ?_); (try (refine gate_guard (by rfl) ?_; dsimp only)); refine Kd.N_lit k41 _ 41 ?hg (N' := 41) ?hd (xs := ([(⟨0, y298, (⟨0, y301⟩ : S39), 0⟩ : S41)] : List (S41))) (inner := [.int .i64 0, .slice Ao35 y298.length co35, .int .i64 0, .slice Ao34 y301.length co34, .int .i64 0]) (ok := (fun k_ => some k_ ≠ (u7 : Value).ownBlock)) (okp := (fun k_ => some k_ ≠ (u7 : Value).ownBlock)) ?hr ?hp (fun _ hk => hk) ((show ∀ k_, w32.heap.size ≤ k_ → (fun k_ => some k_ ≠ (u7 : Value).ownBlock) k_ from fun k_ hk => Kd.fresh' (Kd.R_lt (by (with_reducible repeat (first | apply Kd.R_alloc | apply Kd.R_drewN | apply Kd.R_drew)); exact HO_7.out)) k_ hk) _ (Nat.le_refl _)) (Below.refl _ _) (Nat.le_refl _) (by simp) ?_; (case hd => rfl); (case hg => rfl); (case hr => first | (go_simp; done) | (go_simp; rfl)); (case hp => exact (Reps.c5 (show Kd.FK k41 _ _ (⟨0, y298, (⟨0, y301⟩ : S39), 0⟩ : S41) [.int .i64 0, .slice Ao35 y298.length co35, .int .i64 0, .slice Ao34 y301.length co34, .int .i64 0] from (k41_mkF _ _ (⟨0, y298, (⟨0, y301⟩ : S39), 0⟩ : S41) (Kd.R_reads' (Kd.R_mono (ok' := (fun k_ => some k_ ≠ (u7 : Value).ownBlock)) (Kd.R_apart' (HO300.out) (Kd.R_typed HO_7.out) (by decide)) (fun k_ hk => hk.2))).2.1 (Kd.R_F (Kd.R_mono (ok' := (fun k_ => some k_ ≠ (u7 : Value).ownBlock)) (Kd.R_apart' (HO300.out) (Kd.R_typed HO_7.out) (by decide)) (fun k_ hk => hk.2))) (Kd.R_reads' (Kd.R_mono (ok' := (fun k_ => some k_ ≠ (u7 : Value).ownBlock)) (Kd.R_apart' (HO303.out) (Kd.R_typed HO_7.out) (by decide)) (fun k_ hk => hk.2))).2.1 (Kd.R_F (Kd.R_mono (ok' := (fun k_ => some k_ ≠ (u7 : Value).ownBlock)) (Kd.R_apart' (HO303.out) (Kd.R_typed HO_7.out) (by decide)) (fun k_ hk => hk.2))))) (Reps.none _ _))); intro v305 w36 ho37 hb hg_ hnew_; clear hg_ hnew_; (first | rw [← Ny304.out] at ho37 | (simp only [Int.reduceToNat] at ho37; rw [← Ny304.out] at ho37)); have n0_ := Aside0.mk (Kd.R_below (by (with_reducible repeat (first | apply Kd.R_alloc | apply Kd.R_drewN | apply Kd.R_drew)); exact HO_7.out) hb); have n1_ := Aside0.mk (Kd.N_lower ho37 (below_size (by repeat (first | (with_reducible first | exact HB.out | apply below_alloc | apply pw_below_drewN | apply below_drew1) | exact HB.out)))); have n2_ := Aside0.mk (below_step (by repeat (first | (with_reducible first | exact HB.out | apply below_alloc | apply pw_below_drewN | apply below_drew1) | exact HB.out)) hb); clear HO_7; clear HB; clear HO300; clear HO303; have HO_7 := n0_; have HO306 := n1_; have HB := n2_; clear n0_ n1_ n2_; clear hb ho37; obtain ⟨Ao38, co38, eo38⟩ := Kd.N_slice HO306.out; subst eo38; obtain ⟨Ao39, co39, eo39⟩ := Kd.R_slice HO_7.out; subst eo39) | ((with_reducible refine gate_callee (f := 14) rfl ?_); refine goesL_ (some 44) rfl rfl Try.func14 (by kernel_rfl) rfl #[.slice Ao38 y304.length co38, .slice Ao39 x7_2.length co39, .int .i64 0, .int .i64 0, .int .i64 2, .int .i64 1000] rfl (by (try simp only [List.map_toArray, List.map_cons, List.map_nil]); first | done | rfl | (simp only [List.length_drop, List.length_take]; rfl)) ?_; (with_reducible refine (chart_Count.calls _ _ y304 _ _ x7_2 0 0 2 1000 t307 _ ?side1 ?side2 ?side3 ?side4 A14.out).mono ?_); (case side1 => repeat (first | exact (Kd.N_reads' HO306.out).2.2 | (with_reducible refine Kd.C_alloc ?_ _) | (with_reducible refine Kd.C_drewN ?_ _) | (with_reducible refine Kd.C_drew ?_))); (case side2 => exact (Kd.N_reads' HO306.out).2.1); (case side3 => repeat (first | exact (Kd.R_reads' HO_7.out).2.2 | (with_reducible refine Kd.C_alloc ?_ _) | (with_reducible refine Kd.C_drewN ?_ _) | (with_reducible refine Kd.C_drew ?_))); (case side4 => exact (Kd.R_reads' HO_7.out).2.1); rintro e w40 ⟨rfl, hb⟩; refine ⟨_, rfl, ?_⟩; have n0_ := Aside0.mk (Kd.R_below (by (with_reducible repeat (first | apply Kd.R_alloc | apply Kd.R_drewN | apply Kd.R_drew)); exact HO_7.out) hb); have n1_ := Aside0.mk (Kd.N_below (by (with_reducible repeat (first | apply Kd.N_alloc | apply Kd.N_drewN | apply Kd.N_drew)); exact HO306.out) hb); have n2_ := Aside0.mk (below_step (by repeat (first | (with_reducible first | exact HB.out | apply below_alloc | apply pw_below_drewN | apply below_drew1) | exact HB.out)) hb); clear HO_7; clear HO306; clear HB; have HO_7 := n0_; have HO306 := n1_; have HB := n2_; clear n0_ n1_ n2_; (try clear hb); (try clear hb2); (try clear hk); (try clear hi)))
                  go_ret
                  exact ⟨by first | rfl | (simp [errW_none, errW_some] <;> rfl) | (simp [*, errW_none, errW_some] <;> rfl), by repeat (first | (with_reducible first | exact HB.out | apply below_alloc | apply pw_below_drewN | apply below_drew1) | exact HB.out)⟩
  · replace c4 := Bool.eq_false_iff.mpr c4
    subst c4
    have H1 : (some false) = some r := by rw [if_neg (show ¬ (false = true) by decide)] at H; exact H
    clear H
    have H := H1
    clear H1
    obtain rfl := Option.some.inj H
    go_enter Try.func7, Try.ntmps7
    go_wp2_with (first | ((with_reducible refine gate_callee (f := 9) rfl ?_); refine goesL_ (some 11) rfl rfl Try.func9 (by kernel_rfl) rfl #[] rfl (by (try simp only [List.map_toArray, List.map_cons, List.map_nil]); first | done | rfl | (simp only [List.length_drop, List.length_take]; rfl)) ?_; (with_reducible refine (interlocutorlaw7_known.calls  false _ A3.out).mono ?_); rintro e w41 ⟨rfl, hb⟩; refine ⟨_, rfl, ?_⟩; have n0_ := Aside0.mk (below_step (by repeat (first | (with_reducible first | exact HB.out | apply below_alloc | apply pw_below_drewN | apply below_drew1) | exact HB.out)) hb); clear HB; have HB := n0_; clear n0_; (try clear hb); (try clear hb2); (try clear hk); (try clear hi)))
    go_ret
    exact ⟨by first | rfl | (simp [errW_none, errW_some] <;> rfl) | (simp [*, errW_none, errW_some] <;> rfl), by repeat (first | (with_reducible first | exact HB.out | apply below_alloc | apply pw_below_drewN | apply below_drew1) | exact HB.out)⟩
def interlocutorlaw7_ChartWords.Pure : Prop := ∀ (a0 : Int) (a1 : Int), (Lit.int .i64 a0).wf = true → (Lit.int .i64 a1).wf = true → ∃ k, interlocutorlaw7_ChartWords.f k a0 a1 = some true
theorem interlocutorlaw7_ChartWords.walk (P : interlocutorlaw7_ChartWords.Pure) (a0 : Int) (a1 : Int) (w : World) (w0 : (Lit.int .i64 a0).wf = true) (w1 : (Lit.int .i64 a1).wf = true) :
    Calls Try.prog 7 #[.int .i64 a0, .int .i64 a1] w fun e w' => e = .returned (.bool true) ∧ Below w.heap.size w w' := by
  obtain ⟨k, h⟩ := P a0 a1 w0 w1
  refine (interlocutorlaw7_ChartWords.calls k a0 a1 true w h).mono ?_
  rintro e w' ⟨rfl, hd⟩
  exact ⟨rfl, hd⟩
end Go.Proofs.Ytjfbfhoipgldgaa.P
end
section
namespace Go.Proofs.Ytjfbfhoipgldgaa.P
open Go.RowKit Go.Proofs.YtjfbfhoipgldgaaW.PrintWords Go.Proofs.YtjfbfhoipgldgaaW.PrintLast Go.Proofs.YtjfbfhoipgldgaaW.PrintMore
attribute [local go_sem] max2_int min2_int max_two min_two max_three min_three max_four min_four   
set_option linter.unusedVariables false
set_option linter.unusedSimpArgs false
theorem check_flat (l : List Rule') (h1 : l.length ≤ 60) (h2 : l.all rightR = true) (h3 : ∀ r ∈ l, ∀ y, r.f1 = [y] → y < 0) : checkP l = true :=
  (checkP_iff l).2 ⟨h1, h2, fun x hx => no_round l id (fun r hr y hy _ hs => absurd (h3 r hr y hy) (by have := hs.1; omega)) x hx⟩
theorem tok_fwd (toks : List Tok') (h : ∀ x ∈ toks, x.f0 < x.f1) : Chart.Fwd (tokT toks) := by
  intro x p q hpq
  refine Classical.byContradiction fun hx => hpq ?_
  unfold tokT at hx
  obtain ⟨t, ht⟩ := List.exists_mem_of_ne_nil (toks.filter fun t => decide (tkKey t = (-1 - x, (p : Int), (q : Int)))) (fun e => hx (by rw [e]; rfl))
  rw [List.mem_filter] at ht
  have h2 := of_decide_eq_true ht.2
  unfold tkKey at h2
  injection h2 with _ h2
  injection h2 with h2 h3
  have := h t ht.1
  omega
def rowTok (i : Nat) : Tok' := ⟨(i : Int), (i : Int) + 1, 0, 0, 1⟩
def rowL (k : Nat) : List Tok' := (List.range k).map rowTok
theorem rowL_succ (k : Nat) : rowL (k + 1) = rowL k ++ [rowTok k] := by
  unfold rowL
  rw [List.range_succ, List.map_append]
  rfl
theorem rowL_length (k : Nat) : (rowL k).length = k := by simp [rowL]
theorem rowL_mem (k : Nat) (x : Tok') (h : x ∈ rowL k) : ∃ i, i < k ∧ x = rowTok i := by
  obtain ⟨i, hi, rfl⟩ := List.mem_map.1 h
  exact ⟨i, List.mem_range.1 hi, rfl⟩
theorem tokT_row (p q : Nat) : ∀ k, tokT (rowL k) (-1) p q = if q = p + 1 ∧ p < k then 1 else 0
  | 0 => by simp [tokT, rowL]
  | k + 1 => by
    have ih := tokT_row p q k
    have e : tokT (rowL (k + 1)) (-1) p q = tokT (rowL k) (-1) p q + ([rowTok k].filter fun t => decide (tkKey t = (-1 - -1, (p : Int), (q : Int)))).length := by
      unfold tokT
      rw [rowL_succ, List.filter_append, List.length_append]
    rw [e, ih]
    by_cases h : k = p ∧ q = p + 1
    · obtain ⟨rfl, rfl⟩ := h
      rw [List.filter_cons_of_pos (by unfold tkKey rowTok; simp)]
      simp
    · rw [List.filter_cons_of_neg (by
        unfold tkKey rowTok
        simp only [decide_eq_true_eq, Prod.mk.injEq, not_and]
        intro _ h1 h2
        omega)]
      by_cases h2 : q = p + 1 ∧ p < k
      · rw [if_pos h2, if_pos ⟨h2.1, by omega⟩]; rfl
      · rw [if_neg h2, if_neg (by omega)]; rfl
theorem row_ok (rules : List Rule') (k n : Nat) (hr : rules.length ≤ 1000000) (hk : k ≤ n) (hk2 : k ≤ 1000) : okIn rules (rowL k) n = true := by
  refine (okIn_iff _ _ _).2 ⟨hr, by rw [rowL_length]; exact hk2, fun x hx => ?_⟩
  obtain ⟨i, hi, rfl⟩ := rowL_mem k x hx
  unfold rowTok
  simp only
  omega
theorem row_size : ∀ k, sizeL (rowL k) = (k : Int)
  | 0 => rfl
  | k + 1 => by
    have ih := row_size k
    unfold sizeL at ih ⊢
    rw [rowL_succ, List.foldl_append, ih]
    show max (k : Int) ((k : Int) + 1) = ((k + 1 : Nat) : Int)
    omega
theorem row_toks (k : Nat) : ∀ x ∈ rowL k, 0 ≤ x.f0 ∧ x.f0 < x.f1 ∧ x.f1 ≤ (k : Int) := fun x hx => by
  obtain ⟨i, hi, rfl⟩ := rowL_mem k x hx
  unfold rowTok
  simp only
  omega
def triN (k : Nat) : Nat := (((List.range (20 * (k + 1) * (k + 1))).map (decS (k + 1))).filter fun x => decide (x.f0 = 0 ∧ x.f1 < x.f2)).length
set_option maxRecDepth 100000 in
theorem tri_eq : ∀ k : Fin 13, triN k.val = k.val * (k.val + 1) / 2 := by decide +kernel
theorem spans_tri (rules : List Rule') (toks : List Tok') (k : Nat) (hk : k ≤ 12) (hch : checkP rules = true) (h : ∀ (s : Int) (p q : Nat), numP rules toks k s p q ≠ 0 ↔ s = 0 ∧ p < q ∧ q ≤ k) : (spansP rules toks k).length = k * (k + 1) / 2 := by
  have h1 := tri_eq ⟨k, by omega⟩
  rw [← h1]
  unfold spansP triN
  rw [if_pos hch]
  congr 1
  refine List.filter_congr fun x hx => ?_
  obtain ⟨i, _, rfl⟩ := List.mem_map.1 hx
  have hq : i % (k + 1) < k + 1 := Nat.mod_lt _ (Nat.succ_pos k)
  rw [decide_eq_decide, h]
  unfold decS
  simp only [Int.toNat_natCast]
  omega
theorem pairs_num (rules : List Rule') (hr : plainR rules = [(0, [0, 0]), (0, [-1])] ∨ plainR rules = [(0, [-1]), (0, [0, 0])]) (hch : checkP rules = true) (k : Nat) (hk : k ≤ 10) (s : Int) (p q : Nat) :
    numP rules (rowL k) k s p q = if s = 0 ∧ p < q ∧ q ≤ k then Chart.catF (q - p) else 0 := by
  have hf : Chart.Fwd (tokT (rowL k)) := tok_fwd _ fun x hx => (row_toks k x hx).2.1
  have hne := plain_ne rules hch
  by_cases hs : s = 0
  · subst hs
    by_cases hpq : p < q
    · by_cases hq : q ≤ k
      · rw [if_pos ⟨rfl, hpq, hq⟩]
        refine Chart.brackets (tokT (rowL k)) k (plainR rules) hr hf (fun p q hpq hq => ?_) hk (q - p) p q rfl hpq hq
        rw [tokT_row]
        by_cases e : q = p + 1
        · rw [if_pos ⟨e, by omega⟩, if_pos e]
        · rw [if_neg (fun h => e h.1), if_neg e]
      · rw [if_neg (fun h => hq h.2.2)]
        exact Classical.byContradiction fun h => hq (num_tok rules hch (rowL k) k k (row_toks k) 0 p q h).2
    · rw [if_neg (fun h => hpq h.2.1)]
      exact Chart.Num_fwd _ _ _ hf hne 0 p q hpq
  · rw [if_neg (fun h => hs h.1)]
    refine Chart.brackets_other _ _ _ (fun r h => ?_) hne s hs p q
    rcases hr with hr | hr <;> rw [hr] at h <;> simp at h <;> rcases h with rfl | rfl <;> rfl
theorem catF_pos : ∀ d : Fin 11, 1 ≤ d.val → Chart.catF d.val ≠ 0 := by decide
theorem pairs_spans (rules : List Rule') (hr : plainR rules = [(0, [0, 0]), (0, [-1])] ∨ plainR rules = [(0, [-1]), (0, [0, 0])]) (hch : checkP rules = true) (k : Nat) (hk : k ≤ 10) : (spansP rules (rowL k) k).length = k * (k + 1) / 2 := by
  refine spans_tri rules (rowL k) k (by omega) hch fun s p q => ?_
  rw [pairs_num rules hr hch k hk]
  by_cases h : s = 0 ∧ p < q ∧ q ≤ k
  · rw [if_pos h]
    exact ⟨fun _ => h, fun _ => catF_pos ⟨q - p, by omega⟩ (by show 1 ≤ q - p; omega)⟩
  · rw [if_neg h]
    exact ⟨fun h1 => absurd rfl h1, fun h1 => absurd h1 h⟩
theorem count_row (rules : List Rule') (hl : rules.length ≤ 1000000) (hch : checkP rules = true) (k : Nat) (hk0 : 1 ≤ k) (hk : k ≤ 1000) (most : Int) (h0 : 0 ≤ most) (h1 : most ≤ 1000000000) :
    chart_Count.f rules (rowL k) 0 0 (k : Int) most = some ((min (numP rules (rowL k) k 0 0 k) most.toNat : Nat) : Int) := by
  unfold chart_Count.f
  rw [if_pos ⟨⟨⟨⟨by omega, by omega⟩, ⟨by omega, by omega⟩, ⟨by omega, by omega⟩, ⟨by omega, by omega⟩⟩, h1⟩, row_ok rules k 1000000 hl (by omega) hk⟩]
  unfold countP
  congr 1
  by_cases hm : most ≤ 0
  · rw [if_pos (.inl hm)]
    have : most = 0 := by omega
    subst this
    simp
  · rw [if_neg (by omega), row_size, if_neg (by omega), if_pos hch]
    simp only [Int.toNat_natCast]
    rfl
def oneR : Rule' := ⟨0, [-1], ⟨8, [0]⟩, 0⟩
def pairR : Rule' := ⟨0, [0, 0], ⟨0, [0]⟩, 0⟩
theorem known_check : checkP [oneR, pairR] = true := check_flat _ (by decide) (by decide) (fun r hr y hy => by simp at hr; rcases hr with rfl | rfl <;> simp [oneR, pairR] at hy <;> omega)
theorem known_true : interlocutorlaw7_known.f = some true := by
  have hs : chart_Spans.f [oneR, pairR] (rowL 3) 3 = some (spansP [oneR, pairR] (rowL 3) 3) := by
    unfold chart_Spans.f
    rw [if_pos ⟨by decide, row_ok _ 3 3 (by decide) (Nat.le_refl _) (by decide)⟩]
    rfl
  have hs0 : chart_Spans.f [] [] 0 = some (spansP [] [] 0) := by
    unfold chart_Spans.f
    rw [if_pos ⟨by decide, by decide⟩]
    rfl
  have hl := pairs_spans [oneR, pairR] (.inr rfl) known_check 3 (by decide)
  have hl0 : (spansP [] [] 0).length = 0 := by
    refine List.length_eq_zero_iff.2 (List.eq_nil_iff_forall_not_mem.2 fun x hx => ?_)
    obtain ⟨hch, s, p, q, rfl, hn⟩ := (spansP_mem [] [] 0 (by simp) x).1 hx
    obtain ⟨r, hr, _⟩ := num_lhs _ _ _ _ _ _ hn
    simp [plainR] at hr
  have hc : chart_Count.f [oneR, pairR] (rowL 3) 0 0 3 100 = some 2 := by
    have h := count_row [oneR, pairR] (by decide) known_check 3 (by decide) (by decide) 100 (by decide) (by decide)
    rw [pairs_num [oneR, pairR] (.inr rfl) known_check 3 (by decide)] at h
    exact h
  have hc1 : chart_Count.f [oneR, pairR] (rowL 3) 0 1 1 100 = some 0 := by
    unfold chart_Count.f
    rw [if_pos ⟨⟨⟨⟨by omega, by omega⟩, ⟨by omega, by omega⟩, ⟨by omega, by omega⟩, ⟨by omega, by omega⟩⟩, by omega⟩, row_ok _ 3 1000000 (by decide) (by omega) (by omega)⟩]
    unfold countP
    rw [if_pos (.inr (.inr (by omega)))]
  show ((some [oneR, pairR]).bind fun y129 => (some (rowL 3)).bind fun y132 => (chart_Spans.f y129 y132 3).bind fun t135 => (chart_Spans.f ([] : List Rule') ([] : List Tok') 0).bind fun t138 => (if (t138.length : Int) = 0 then (if (t135.length : Int) = 6 then ((chart_Count.f y129 y132 0 0 3 100).bind fun t141 => (if t141 = 2 then ((chart_Count.f y129 y132 0 1 1 100).bind fun t142 => (some (t142 == 0))) else (some false))) else (some false)) else (some false))) = some true
  rw [Option.bind_some, Option.bind_some, hs, Option.bind_some, hs0, Option.bind_some, hl0, hl, hc, hc1]
  rfl
end Go.Proofs.Ytjfbfhoipgldgaa.P
end
section
namespace Go.Proofs.Ytjfbfhoipgldgaa.P
open Go.RowKit Go.Proofs.YtjfbfhoipgldgaaW.PrintWords Go.Proofs.YtjfbfhoipgldgaaW.PrintLast Go.Proofs.YtjfbfhoipgldgaaW.PrintMore
attribute [local go_sem] max2_int min2_int max_two min_two max_three min_three max_four min_four   
set_option linter.unusedVariables false
set_option linter.unusedSimpArgs false
theorem within7_rem (a n : Int) (hn : 0 < n) (hn2 : n ≤ 4611686018427387904) : interlocutorlaw7_within.f a n = some (a % n) := by
  unfold interlocutorlaw7_within.f
  have h1 := Int.emod_nonneg a (by omega : n ≠ 0)
  have h2 := Int.emod_lt_of_pos a hn
  have h4 : (n.natAbs : Int) = n := by omega
  rw [if_neg (by omega)]
  have h3 := @Int.tmod_eq_emod a n
  by_cases hd : 0 ≤ a ∨ n ∣ a
  · rw [if_pos hd] at h3
    rw [if_neg (by omega), h3]
    congr 1
    omega
  · rw [if_neg hd, h4] at h3
    rw [if_pos (by omega), h3]
    congr 1
    unfold wrap64
    omega
end Go.Proofs.Ytjfbfhoipgldgaa.P
end
section
namespace Go.Proofs.Ytjfbfhoipgldgaa.Pure
open Go.RowKit Go.Proofs.Ytjfbfhoipgldgaa.P Go.Proofs.YtjfbfhoipgldgaaW.PrintWords Go.Proofs.YtjfbfhoipgldgaaW.PrintLast
def wordR : Rule' := ⟨0, [-2, -3], ⟨0, [0]⟩, 0⟩
def oneT (i : Nat) : Tok' := ⟨0, 1, 1, (i : Int), 0⟩
def twoT (i : Nat) : Tok' := ⟨1, 2, 2, (i : Int), 0⟩
def wordsL (a b : Nat) : List Tok' := (List.range a).map oneT ++ (List.range b).map twoT
theorem wordsL_mem {a b : Nat} {x : Tok'} (h : x ∈ wordsL a b) : (∃ i, i < a ∧ x = oneT i) ∨ ∃ i, i < b ∧ x = twoT i := by
  rcases List.mem_append.1 h with h | h
  · obtain ⟨i, hi, rfl⟩ := List.mem_map.1 h
    exact .inl ⟨i, List.mem_range.1 hi, rfl⟩
  · obtain ⟨i, hi, rfl⟩ := List.mem_map.1 h
    exact .inr ⟨i, List.mem_range.1 hi, rfl⟩
theorem wordsL_len (a b : Nat) : (wordsL a b).length = a + b := by simp [wordsL]
theorem words_toks (a b : Nat) : ∀ x ∈ wordsL a b, 0 ≤ x.f0 ∧ x.f0 < x.f1 ∧ x.f1 ≤ ((2 : Nat) : Int) := fun x hx => by
  rcases wordsL_mem hx with ⟨i, _, rfl⟩ | ⟨i, _, rfl⟩ <;> simp [oneT, twoT]
theorem words_ok (a b n : Nat) (ha : a ≤ 12) (hb : b ≤ 12) (hn : 2 ≤ n) : okIn [wordR] (wordsL a b) n = true := by
  refine (okIn_iff _ _ _).2 ⟨by simp, by rw [wordsL_len]; omega, fun x hx => ?_⟩
  rcases wordsL_mem hx with ⟨i, _, rfl⟩ | ⟨i, _, rfl⟩ <;> simp [oneT, twoT] <;> omega
theorem same_key (key : Key3) (f : Nat → Tok') (k0 : Key3) (hf : ∀ i, tkKey (f i) = k0) (a : Nat) : (((List.range a).map f).filter fun t => decide (tkKey t = key)).length = if k0 = key then a else 0 := by
  by_cases h : k0 = key
  · rw [if_pos h, List.filter_eq_self.2 (fun t ht => by
      obtain ⟨i, _, rfl⟩ := List.mem_map.1 ht
      rw [hf i, h]
      simp)]
    simp
  · rw [if_neg h, List.filter_eq_nil_iff.2 (fun t ht => by
      obtain ⟨i, _, rfl⟩ := List.mem_map.1 ht
      rw [hf i]
      simp [h])]
    rfl
theorem words_T (a b : Nat) (x : Int) (p q : Nat) : tokT (wordsL a b) x p q = (if ((1, 0, 1) : Key3) = (-1 - x, (p : Int), (q : Int)) then a else 0) + if ((2, 1, 2) : Key3) = (-1 - x, (p : Int), (q : Int)) then b else 0 := by
  unfold tokT wordsL
  rw [List.filter_append, List.length_append, same_key _ oneT (1, 0, 1) (fun _ => rfl), same_key _ twoT (2, 1, 2) (fun _ => rfl)]
theorem words_T2 (a b p q : Nat) : tokT (wordsL a b) (-2) p q = if p = 0 ∧ q = 1 then a else 0 := by
  rw [words_T, if_neg (c := ((2, 1, 2) : Key3) = _) (by simp), Nat.add_zero]
  by_cases h : p = 0 ∧ q = 1
  · obtain ⟨rfl, rfl⟩ := h
    rfl
  · rw [if_neg h, if_neg]
    intro e
    injection e with _ e
    injection e with e1 e2
    omega
theorem words_T3 (a b p q : Nat) : tokT (wordsL a b) (-3) p q = if p = 1 ∧ q = 2 then b else 0 := by
  rw [words_T, if_neg (c := ((1, 0, 1) : Key3) = _) (by simp), Nat.zero_add]
  by_cases h : p = 1 ∧ q = 2
  · obtain ⟨rfl, rfl⟩ := h
    rfl
  · rw [if_neg h, if_neg]
    intro e
    injection e with _ e
    injection e with e1 e2
    omega
theorem words_check : checkP [wordR] = true := check_flat _ (by decide) (by decide) fun r hr y hy => by
  simp at hr
  subst hr
  simp [wordR] at hy
theorem words_num (a b : Nat) (s : Int) (p q : Nat) : numP [wordR] (wordsL a b) 2 s p q = if s = 0 ∧ p = 0 ∧ q = 2 then a * b else 0 := by
  have hf : Chart.Fwd (tokT (wordsL a b)) := tok_fwd _ fun x hx => (words_toks a b x hx).2.1
  have hne := plain_ne _ words_check
  by_cases hs : s = 0
  · subst hs
    by_cases hq : q ≤ 2
    · have hk : Chart.Ranked (plainR [wordR]) (fun _ => 0) := ⟨fun _ => by simp, fun r h x hx e => by
        simp [plainR, wordR] at h
        subst h
        simp at e⟩
      unfold numP
      rw [Chart.Num_eq _ _ _ hf hne _ hk 0 p q hq]
      have e1 : Chart.sumR (tokT (wordsL a b)) 2 (plainR [wordR]) (Chart.Num (tokT (wordsL a b)) 2 (plainR [wordR])) 0 p q = Chart.ways (tokT (wordsL a b)) 2 (Chart.Num (tokT (wordsL a b)) 2 (plainR [wordR])) ([-2] ++ [-3]) p q := by
        unfold Chart.sumR
        simp [plainR, wordR]
      rw [e1, Chart.ways_snoc]
      have e2 : ∀ m, Chart.ways (tokT (wordsL a b)) 2 (Chart.Num (tokT (wordsL a b)) 2 (plainR [wordR])) [-2] p m = if p = 0 ∧ m = 1 then a else 0 := by
        intro m
        have e3 := Chart.ways_snoc (tokT (wordsL a b)) 2 (Chart.Num (tokT (wordsL a b)) 2 (plainR [wordR])) [] (-2) p m
        rw [List.nil_append] at e3
        rw [e3]
        simp only [Chart.sumTo_succ, Chart.ways_nil, Chart.E, show ((-2 : Int) < 0) = True by simp, if_true, words_T2]
        have e4 : ∀ f : Nat → Nat, Chart.sumTo 0 f = 0 := fun _ => rfl
        rw [e4]
        by_cases h0 : p = 0
        · subst h0
          by_cases h1 : m = 1 <;> simp [h1]
        · have h9 : ¬ 0 = p := fun e => h0 e.symm
          simp [h0, h9]
      simp only [e2, Chart.sumTo_succ, Chart.E, show ((-3 : Int) < 0) = True by simp, if_true, words_T3]
      have e4 : ∀ f : Nat → Nat, Chart.sumTo 0 f = 0 := fun _ => rfl
      rw [e4]
      by_cases h0 : p = 0
      · subst h0
        by_cases h1 : q = 2 <;> simp [h1]
      · simp [h0]
    · rw [if_neg (by omega)]
      exact Classical.byContradiction fun h => hq (num_tok _ words_check (wordsL a b) 2 2 (words_toks a b) 0 p q h).2
  · rw [if_neg (fun h => hs h.1)]
    refine Chart.brackets_other _ _ _ (fun r h => ?_) hne s hs p q
    simp [plainR, wordR] at h
    subst h
    rfl
set_option maxRecDepth 100000 in
theorem words_one : (((List.range (20 * (2 + 1) * (2 + 1))).map (decS (2 + 1))).filter fun x => decide (x.f0 = 0 ∧ x.f1 = 0 ∧ x.f2 = 2)).length = 1 := by decide +kernel
theorem words_spans (a b : Nat) : (spansP [wordR] (wordsL a b) 2).length = if a * b = 0 then 0 else 1 := by
  by_cases h : a * b = 0
  · rw [if_pos h]
    refine List.length_eq_zero_iff.2 (List.eq_nil_iff_forall_not_mem.2 fun x hx => ?_)
    obtain ⟨_, s, p, q, rfl, hn⟩ := (spansP_mem [wordR] (wordsL a b) 2 (words_toks a b) x).1 hx
    rw [words_num, h] at hn
    simp at hn
  · rw [if_neg h, ← words_one]
    unfold spansP
    rw [if_pos words_check]
    congr 1
    refine List.filter_congr fun x hx => ?_
    obtain ⟨i, _, rfl⟩ := List.mem_map.1 hx
    rw [decide_eq_decide, words_num]
    unfold decS
    simp only [Int.toNat_natCast]
    by_cases h2 : ((i / (2 + 1) / (2 + 1) : Nat) : Int) = 0 ∧ i / (2 + 1) % (2 + 1) = 0 ∧ i % (2 + 1) = 2
    · rw [if_pos h2]
      exact ⟨fun _ => by omega, fun _ => h⟩
    · rw [if_neg h2]
      exact ⟨fun h1 => absurd rfl h1, fun h1 => absurd (by omega) h2⟩
theorem words_size (a b : Nat) : sizeL (wordsL a b) = if 0 < b then 2 else if 0 < a then 1 else 0 := by
  have h1 : ∀ a, ((List.range a).map oneT).foldl (fun m x => max m x.f1) 0 = if 0 < a then (1 : Int) else 0 := by
    intro a
    induction a with
    | zero => rfl
    | succ a ih =>
      rw [List.range_succ, List.map_append, List.foldl_append, ih]
      show max _ (1 : Int) = _
      rw [if_pos (Nat.succ_pos a)]
      split <;> rfl
  have h2 : ∀ b (m : Int), 0 ≤ m → m ≤ 2 → ((List.range b).map twoT).foldl (fun m x => max m x.f1) m = if 0 < b then (2 : Int) else m := by
    intro b m hm0 hm
    induction b with
    | zero => rfl
    | succ b ih =>
      rw [List.range_succ, List.map_append, List.foldl_append, ih]
      show max _ (2 : Int) = _
      rw [if_pos (Nat.succ_pos b)]
      split <;> omega
  unfold sizeL wordsL
  rw [List.foldl_append, h1, h2 _ _ (by split <;> decide) (by split <;> decide)]
theorem words_end (a b : Nat) (ha : a ≤ 11) (hb : b ≤ 11) (m : Nat) : interlocutorlaw7_ChartWords.l1 (m + 1) (a : Int) (b : Int) (wordsL a b) (b : Int) = some true := by
  have hab : a * b ≤ 11 * 11 := Nat.mul_le_mul ha hb
  have hw : wrap64 ((a : Int) * (b : Int)) = ((a * b : Nat) : Int) := by
    rw [Int.natCast_mul]
    have : ((a * b : Nat) : Int) = (a : Int) * (b : Int) := Int.natCast_mul a b
    unfold wrap64
    omega
  have hc : chart_Count.f [wordR] (wordsL a b) 0 0 2 1000 = some ((a * b : Nat) : Int) := by
    unfold chart_Count.f
    rw [if_pos ⟨⟨⟨⟨by omega, by omega⟩, ⟨by omega, by omega⟩, ⟨by omega, by omega⟩, ⟨by omega, by omega⟩⟩, by omega⟩, words_ok a b 1000000 (by omega) (by omega) (by omega)⟩]
    unfold countP
    rw [if_neg (by omega), words_size]
    by_cases h0 : 0 < b
    · rw [if_pos h0, if_neg (by omega), if_pos words_check]
      have e : (2 : Int).toNat = 2 := rfl
      rw [e, show (0 : Int).toNat = 0 from rfl, words_num, if_pos ⟨rfl, rfl, rfl⟩]
      congr 1
      unfold Chart.cap
      have e2 : (1000 : Int).toNat = 1000 := rfl
      rw [e2]
      omega
    · obtain rfl : b = 0 := by omega
      have e3 : (if 0 < 0 then (2 : Int) else if 0 < a then 1 else 0) = if 0 < a then 1 else 0 := if_neg (by omega)
      rw [e3, if_pos (by split <;> omega)]
      rfl
  have hs : chart_Spans.f [wordR] (wordsL a b) 2 = some (spansP [wordR] (wordsL a b) 2) := by
    unfold chart_Spans.f
    rw [if_pos ⟨⟨by omega, by omega⟩, words_ok a b 2 (by omega) (by omega) (Nat.le_refl _)⟩]
    rfl
  rw [interlocutorlaw7_ChartWords.l1, if_neg (by omega)]
  show ((some [wordR]).bind fun y342 => (chart_Count.f y342 (wordsL a b) 0 0 2 1000).bind fun t345 => (if t345 = (wrap64 ((a : Int) * (b : Int))) then ((chart_Spans.f y342 (wordsL a b) 2).bind fun t346 => (some (((t346.length : Int) == 1) == (decide ((wrap64 ((a : Int) * (b : Int))) > 0))))) else (some false))) = some true
  rw [Option.bind_some, hc, Option.bind_some, hw, if_pos rfl, hs, Option.bind_some, words_spans]
  by_cases h : a * b = 0
  · rw [if_pos h, h]
    rfl
  · rw [if_neg h, decide_eq_true (show ((a * b : Nat) : Int) > 0 by omega)]
    rfl
theorem words_loop1 (a b : Nat) (ha : a ≤ 11) (hb : b ≤ 11) (m : Nat) : ∀ d i, i + d = b → interlocutorlaw7_ChartWords.l1 (m + d) (a : Int) (b : Int) (wordsL a i) (i : Int) = interlocutorlaw7_ChartWords.l1 m (a : Int) (b : Int) (wordsL a b) (b : Int)
  | 0, i, h => by
    obtain rfl : i = b := by omega
    rfl
  | d + 1, i, h => by
    have ih := words_loop1 a b ha hb m d (i + 1) (by omega)
    have hw : wrap64 ((i : Int) + 1) = ((i + 1 : Nat) : Int) := by unfold wrap64; omega
    rw [show m + (d + 1) = (m + d) + 1 by omega, interlocutorlaw7_ChartWords.l1, if_pos (by omega), if_pos (by rw [wordsL_len]; omega)]
    have hrow : wordsL a i ++ [(⟨1, 2, 2, (i : Int), 0⟩ : Tok')] = wordsL a (i + 1) := by
      unfold wordsL
      rw [List.range_succ, List.map_append, List.append_assoc]
      rfl
    rw [hrow, hw]
    exact ih
theorem words_loop0 (a b : Nat) (ha : a ≤ 11) (m : Nat) : ∀ d i, i + d = a → interlocutorlaw7_ChartWords.l0 (m + 1 + d) (a : Int) (b : Int) ((List.range i).map oneT) (i : Int) = interlocutorlaw7_ChartWords.l1 m (a : Int) (b : Int) (wordsL a 0) 0
  | 0, i, h => by
    obtain rfl : i = a := by omega
    rw [Nat.add_zero, interlocutorlaw7_ChartWords.l0, if_neg (by omega)]
    unfold wordsL
    rw [List.range_zero, List.map_nil, List.append_nil]
  | d + 1, i, h => by
    have ih := words_loop0 a b ha m d (i + 1) (by omega)
    have hw : wrap64 ((i : Int) + 1) = ((i + 1 : Nat) : Int) := by unfold wrap64; omega
    rw [show m + 1 + (d + 1) = (m + 1 + d) + 1 by omega, interlocutorlaw7_ChartWords.l0, if_pos (by omega), if_pos (by rw [List.length_map, List.length_range]; omega)]
    have hrow : (List.range i).map oneT ++ [(⟨0, 1, 1, (i : Int), 0⟩ : Tok')] = (List.range (i + 1)).map oneT := by
      rw [List.range_succ, List.map_append]
      rfl
    rw [hrow, hw]
    exact ih
theorem ChartWords : interlocutorlaw7_ChartWords.Pure := by
  intro a0 a1 _ _
  have h0 := Int.emod_nonneg a0 (show (12 : Int) ≠ 0 by decide)
  have h1 := Int.emod_lt_of_pos a0 (show (0 : Int) < 12 by decide)
  have h2 := Int.emod_nonneg a1 (show (12 : Int) ≠ 0 by decide)
  have h3 := Int.emod_lt_of_pos a1 (show (0 : Int) < 12 by decide)
  obtain ⟨a, ha⟩ : ∃ a : Nat, a0 % 12 = (a : Int) := ⟨(a0 % 12).toNat, by omega⟩
  obtain ⟨b, hb⟩ : ∃ b : Nat, a1 % 12 = (b : Int) := ⟨(a1 % 12).toNat, by omega⟩
  refine ⟨(0 + 1 + b) + 1 + a, ?_⟩
  unfold interlocutorlaw7_ChartWords.f
  rw [known_true, Option.bind_some, if_pos rfl, within7_rem a0 12 (by decide) (by decide), Option.bind_some, within7_rem a1 12 (by decide) (by decide), Option.bind_some, ha, hb]
  exact (words_loop0 a b (by omega) (0 + 1 + b) a 0 (by omega)).trans ((words_loop1 a b (by omega) (by omega) (0 + 1) b 0 (by omega)).trans (words_end a b (by omega) (by omega) 0))
end Go.Proofs.Ytjfbfhoipgldgaa.Pure
end
