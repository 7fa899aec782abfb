/- Maps: a block that holds, in the order in which they came, keys (of a Lean type) and values; what a look-up, a store, an entry make of it. -/
import Derived.Test.YtjomlfdkmdgclaaH0
import Derived.Maps.OwnOps
import Derived.MapKept
namespace Go.Proofs.Ytjomlfdkmdgclaa.P
set_option linter.unusedVariables false
set_option linter.unusedSimpArgs false
open Go.RowKit Go.Shelf Go.Proofs.YtjomlfdkmdgclaaW.PrintWords Go.Proofs.YtjomlfdkmdgclaaW.PrintLast Go.Proofs.YtjomlfdkmdgclaaW.PrintMore
open Go.Maps (Keyed)
open Go.MapKept (Stamped)

section
variable {κ : Type} [DecidableEq κ]
/-- What a list of keys and values has at a key. -/
def mget {ν : Type} : List (κ × ν) → κ → Option ν
  | [], _ => none
  | p :: m, k => if p.1 = k then some p.2 else mget m k
/-- A value stored at a key. -/
def mput {ν : Type} : List (κ × ν) → κ → ν → List (κ × ν)
  | [], k, v => [(k, v)]
  | p :: m, k, v => if p.1 = k then (k, v) :: m else p :: mput m k v

theorem mget_mput_same {ν : Type} (k : κ) (v : ν) : ∀ m : List (κ × ν), mget (mput m k v) k = some v
  | [] => by simp [mput, mget]
  | p :: m => by
    unfold mput
    by_cases h : p.1 = k
    · rw [if_pos h]; simp [mget]
    · rw [if_neg h, mget, if_neg h]; exact mget_mput_same k v m
theorem mget_mput_other {ν : Type} (k : κ) (v : ν) (j : κ) (hj : j ≠ k) : ∀ m : List (κ × ν), mget (mput m k v) j = mget m j
  | [] => by simp [mput, mget, Ne.symm hj]
  | p :: m => by
    unfold mput
    by_cases h : p.1 = k
    · rw [if_pos h]; simp [mget, h, Ne.symm hj]
    · rw [if_neg h, mget, mget, mget_mput_other k v j hj m]
theorem mput_keys {ν : Type} (k : κ) (v : ν) : ∀ m : List (κ × ν), (mput m k v).map (·.1) = if k ∈ m.map (·.1) then m.map (·.1) else m.map (·.1) ++ [k]
  | [] => by simp [mput]
  | p :: m => by
    unfold mput
    by_cases h : p.1 = k
    · rw [if_pos h]; simp [h]
    · rw [if_neg h]
      simp only [List.map_cons, List.mem_cons, mput_keys k v m]
      have h2 : ¬ k = p.1 := fun e => h e.symm
      by_cases h3 : k ∈ m.map (·.1)
      · simp [h3]
      · simp [h2, h3]
theorem mget_isSome {ν : Type} (k : κ) : ∀ m : List (κ × ν), (mget m k).isSome = true ↔ k ∈ m.map (·.1)
  | [] => by simp [mget]
  | p :: m => by
    unfold mget
    by_cases h : p.1 = k
    · rw [if_pos h]; simp [h]
    · rw [if_neg h, mget_isSome k m]
      have h2 : ¬ k = p.1 := fun e => h e.symm
      simp [h2]
theorem mput_mem {ν : Type} {k : κ} {v : ν} {m : List (κ × ν)} {p : κ × ν} (h : p ∈ mput m k v) : p = (k, v) ∨ p ∈ m := by
  induction m with
  | nil => simp [mput] at h; exact .inl h
  | cons q m ih =>
    unfold mput at h
    by_cases hq : q.1 = k
    · rw [if_pos hq] at h
      rcases List.mem_cons.1 h with h | h
      · exact .inl h
      · exact .inr (List.mem_cons_of_mem _ h)
    · rw [if_neg hq] at h
      rcases List.mem_cons.1 h with h | h
      · exact .inr (h ▸ List.mem_cons_self)
      · rcases ih h with h | h
        · exact .inl h
        · exact .inr (List.mem_cons_of_mem _ h)
theorem mget_mem {ν : Type} {k : κ} {v : ν} : ∀ {m : List (κ × ν)}, mget m k = some v → (k, v) ∈ m
  | p :: m, h => by
    unfold mget at h
    by_cases hq : p.1 = k
    · rw [if_pos hq] at h
      obtain rfl := Option.some.inj h
      rw [← hq]; exact List.mem_cons_self
    · rw [if_neg hq] at h
      exact List.mem_cons_of_mem _ (mget_mem h)
omit [DecidableEq κ] in
theorem map_vals {ν μ : Type} (f : ν → μ) (m : List (κ × ν)) : (m.map fun p => (p.1, f p.2)).map (·.1) = m.map (·.1) := by
  rw [List.map_map]; rfl
theorem mget_map {ν μ : Type} (f : ν → μ) (k : κ) : ∀ m : List (κ × ν), mget (m.map fun p => (p.1, f p.2)) k = (mget m k).map f
  | [] => rfl
  | p :: m => by
    rw [List.map_cons, mget, mget]
    by_cases h : p.1 = k
    · rw [if_pos h, if_pos h]; rfl
    · rw [if_neg h, if_neg h, mget_map f k m]
theorem mput_map {ν μ : Type} (f : ν → μ) (k : κ) (v : ν) : ∀ m : List (κ × ν), mput (m.map fun p => (p.1, f p.2)) k (f v) = (mput m k v).map fun p => (p.1, f p.2)
  | [] => rfl
  | p :: m => by
    rw [List.map_cons, mput, mput]
    by_cases h : p.1 = k
    · rw [if_pos h, if_pos h]; rfl
    · rw [if_neg h, if_neg h, mput_map f k v m]; rfl

/-- A map's block. -/
def MapOf (P : Program) (kt : TypeId) (enc : κ → Value) (w : World) (b : Nat) (m : List (κ × Value)) : Prop :=
  ∃ es clock, w.heap[b]? = some (.map es clock) ∧ es.toList.map (fun e => (e.key, e.val)) = m.map (fun p => (enc p.1, p.2)) ∧
    (∀ p ∈ m, ∃ l, keyOf P kt (enc p.1) = some l) ∧ Stamped es clock

variable {P : Program} {kt : TypeId} {enc : κ → Value} {w w1 : World} {b : Nat} {m : List (κ × Value)}

omit [DecidableEq κ] in
theorem MapOf.made (P : Program) (kt : TypeId) (enc : κ → Value) (w : World) : MapOf P kt enc (w.alloc (.map #[] 0)) w.heap.size [] :=
  ⟨#[], 0, (MapKept.heap_alloc w _).1, rfl, by simp, MapKept.stamped_empty 0⟩
omit [DecidableEq κ] in
theorem MapOf.lt (h : MapOf P kt enc w b m) : b < w.heap.size := by
  obtain ⟨es, clock, hb, _⟩ := h
  exact (Array.getElem?_eq_some_iff.1 hb).1
omit [DecidableEq κ] in
theorem MapOf.same (h : MapOf P kt enc w b m) (hw : w1.heap[b]? = w.heap[b]?) : MapOf P kt enc w1 b m := by
  obtain ⟨es, clock, hb, r⟩ := h
  exact ⟨es, clock, hw.trans hb, r⟩
omit [DecidableEq κ] in
theorem MapOf.below (h : MapOf P kt enc w b m) (hb : Below w.heap.size w w1) : MapOf P kt enc w1 b m := h.same (hb.block b h.lt)
omit [DecidableEq κ] in
theorem MapOf.alloc (h : MapOf P kt enc w b m) (o : Obj) : MapOf P kt enc (w.alloc o) b m := h.below (below_alloc (Below.refl _ _) o)
omit [DecidableEq κ] in
theorem MapOf.drewN (h : MapOf P kt enc w b m) (n : Nat) : MapOf P kt enc (w.drewN n) b m := h
omit [DecidableEq κ] in
theorem MapOf.drew (h : MapOf P kt enc w b m) : MapOf P kt enc w.drew b m := h
omit [DecidableEq κ] in
theorem MapOf.grown (h : MapOf P kt enc w b m) {row : Option Nat} (hg : w.grownBy w1 row) (hne : some b ≠ row) : MapOf P kt enc w1 b m := h.same (hg.block b h.lt hne)
omit [DecidableEq κ] in
theorem MapOf.setCell (h : MapOf P kt enc w b m) (p : Addr) (hp : b ≠ p.block) (u : Value) : MapOf P kt enc (w.setCell p u) b m := h.same (Below.heap_setCell w p u b hp)
omit [DecidableEq κ] in
theorem MapOf.not_cells (h : MapOf P kt enc w b m) {g : Nat} {cs : Array Value} {t : TypeId} {z : Nat × Nat} (hg : w.heap[g]? = some (.cells cs t z)) : b ≠ g := by
  obtain ⟨es, clock, h1, _⟩ := h
  intro e
  rw [e, hg] at h1
  cases h1
omit [DecidableEq κ] in
theorem MapOf.nodup (h : MapOf P kt enc w b m) : (m.map (·.1)).Nodup := by
  obtain ⟨es, clock, _, he, _, hs⟩ := h
  have hp := ((MapKept.stamped_iff es clock).1 hs).2.2
  have h1 : es.toList.map (fun e => e.key) = m.map (fun p => enc p.1) := by
    have := congrArg (List.map (·.1)) he
    simpa [List.map_map, Function.comp_def] using this
  have h2 : (es.toList.map (fun e => e.key)).Pairwise (· ≠ ·) := List.pairwise_map.2 hp
  rw [h1] at h2
  rw [List.Nodup, List.pairwise_map]
  have h3 := List.pairwise_map.1 h2
  exact h3.imp (fun hne e => hne (by rw [e]))

/-- Where a key is found. -/
theorem MapOf.find_cases (K : Keyed P kt) (hinj : ∀ x y, enc x = enc y → x = y) {es : Array MapEntry} (he : es.toList.map (fun e => (e.key, e.val)) = m.map (fun p => (enc p.1, p.2)))
    (hks : ∀ p ∈ m, ∃ l, keyOf P kt (enc p.1) = some l) (w : World) (k : κ) (hk : ∃ l, keyOf P kt (enc k) = some l) (hnd : (m.map (·.1)).Nodup) :
    ((Instr.findKey kt (enc k) es.toList).run P w = .ok none w ∧ (∀ e ∈ es.toList, e.key ≠ enc k) ∧ mget m k = none ∧ ∀ v, mput m k v = m ++ [(k, v)]) ∨
    ∃ j e, (Instr.findKey kt (enc k) es.toList).run P w = .ok (some (j, e.val)) w ∧ es.toList[j]? = some e ∧ e.key = enc k ∧ mget m k = some e.val ∧
      ∀ v, ∃ _ : j < m.length, mput m k v = m.set j (k, v) := by
  obtain ⟨l, hl⟩ := hk
  have hkeys : ∀ e ∈ es.toList, ∃ l, keyOf P kt e.key = some l := by
    intro e hem
    have : (e.key, e.val) ∈ m.map (fun p => (enc p.1, p.2)) := by rw [← he]; exact List.mem_map.2 ⟨e, hem, rfl⟩
    obtain ⟨p, hp, hpe⟩ := List.mem_map.1 this
    obtain ⟨l', hl'⟩ := hks p hp
    exact ⟨l', by rw [← (Prod.mk.inj hpe).1]; exact hl'⟩
  rcases K.find w hl es.toList hkeys with ⟨h1, h2⟩ | ⟨j, e, h1, h2, h3⟩
  · refine .inl ⟨h1, h2, ?_⟩
    have hno : ∀ p ∈ m, p.1 ≠ k := by
      intro p hp hpk
      have : (enc p.1, p.2) ∈ es.toList.map (fun e => (e.key, e.val)) := by rw [he]; exact List.mem_map.2 ⟨p, hp, rfl⟩
      obtain ⟨e, hem, hee⟩ := List.mem_map.1 this
      exact h2 e hem (by rw [(Prod.mk.inj hee).1, hpk])
    clear he hks hnd
    induction m with
    | nil => exact ⟨rfl, fun _ => rfl⟩
    | cons p m ih =>
      have hp := hno p List.mem_cons_self
      obtain ⟨i1, i2⟩ := ih (fun q hq => hno q (List.mem_cons_of_mem _ hq))
      exact ⟨by rw [mget, if_neg hp]; exact i1, fun v => by rw [mput, if_neg hp, i2]; rfl⟩
  · refine .inr ⟨j, e, h1, h2, h3, ?_⟩
    have hm : m[j]? = some (k, e.val) := by
      have : (m.map (fun p => (enc p.1, p.2)))[j]? = some (e.key, e.val) := by rw [← he, List.getElem?_map, h2]; rfl
      rw [List.getElem?_map] at this
      obtain ⟨p, hp, hpe⟩ := Option.map_eq_some_iff.1 this
      obtain ⟨q1, q2⟩ := Prod.mk.inj hpe
      rw [hp, ← q2, ← hinj p.1 k (by rw [q1, h3])]
    clear he hks h1 h2 h3
    induction m generalizing j with
    | nil => simp at hm
    | cons p m ih =>
      rw [List.map_cons, List.nodup_cons] at hnd
      cases j with
      | zero =>
        rw [List.getElem?_cons_zero] at hm
        obtain rfl := Option.some.inj hm
        exact ⟨by simp [mget], fun v => ⟨by simp, by simp [mput]⟩⟩
      | succ j =>
        rw [List.getElem?_cons_succ] at hm
        have hp : p.1 ≠ k := fun e2 => hnd.1 (by rw [e2]; exact List.mem_map.2 ⟨_, List.mem_of_getElem? hm, rfl⟩)
        obtain ⟨i1, i2⟩ := ih hnd.2 j hm
        refine ⟨by rw [mget, if_neg hp]; exact i1, fun v => ?_⟩
        obtain ⟨hj, i3⟩ := i2 v
        exact ⟨by simp; omega, by rw [mput, if_neg hp, i3]; rfl⟩

theorem MapOf.lookup {t e : TypeId} (h : MapOf P kt enc w b m) (K : Keyed P kt) (hinj : ∀ x y, enc x = enc y → x = y) (ht : P.underlying t = some (.map kt e)) {z : Value} (hz : (zeroValue e).run P w = .ok z w)
    (k : κ) (hk : ∃ l, keyOf P kt (enc k) = some l) (c : Bool) :
    (Instr.lookup t (.map (some b)) (enc k) c).run P w = .ok (if c then .tuple #[(mget m k).getD z, .bool (mget m k).isSome] else (mget m k).getD z) w := by
  have hnd := h.nodup
  obtain ⟨es, clock, hb, he, hks, hs⟩ := h
  obtain ⟨l, hl⟩ := hk
  rcases MapOf.find_cases K hinj he hks w k ⟨l, hl⟩ hnd with ⟨h1, _, h3, _⟩ | ⟨j, e0, h1, _, _, h4, _⟩
  · rw [h3]; simp [Instr.lookup, run_underlying ht, MapKept.run_getObj_map hb, K.check w _ hl, h1, hz, Result.andThen]
  · rw [h4]; simp [Instr.lookup, run_underlying ht, MapKept.run_getObj_map hb, K.check w _ hl, h1, Result.andThen]

omit [DecidableEq κ] in
theorem grown_set (w : World) {b : Nat} {o o' : Obj} (hb : w.heap[b]? = some o) : w.grownBy { w with heap := w.heap.setIfInBounds b o' } (some b) :=
  ⟨rfl, rfl, rfl, by simp, fun k _ hne => (MapKept.heap_set hb).2 k (fun e => hne (by rw [e]))⟩

omit [DecidableEq κ] in
theorem map_set_entry {es : Array MapEntry} {j : Nat} {k : κ} {v : Value} (he : es.toList.map (fun e => (e.key, e.val)) = m.map (fun p => (enc p.1, p.2))) (f : MapEntry → MapEntry) (hf : ∀ e, es.toList[j]? = some e → (f e).key = enc k ∧ (f e).val = v) :
    (es.modify j f).toList.map (fun e => (e.key, e.val)) = (m.set j (k, v)).map (fun p => (enc p.1, p.2)) := by
  rw [List.map_set, ← he, Array.toList_modify]
  apply List.ext_getElem?
  intro i
  rw [List.getElem?_map, List.getElem?_modify, List.getElem?_set, List.getElem?_map, List.length_map]
  by_cases hij : j = i
  · subst hij
    rw [if_pos rfl]
    cases hes : es.toList[j]? with
    | none =>
      have : ¬ j < es.toList.length := fun hl => by rw [List.getElem?_eq_getElem hl] at hes; cases hes
      rw [if_neg this]; rfl
    | some e =>
      have hl := (List.getElem?_eq_some_iff.1 hes).1
      rw [if_pos hl]
      simp [hf e hes]
  · rw [if_neg hij]
    cases es.toList[i]? <;> simp [hij]

theorem MapOf.update {t e : TypeId} (h : MapOf P kt enc w b m) (K : Keyed P kt) (hinj : ∀ x y, enc x = enc y → x = y) (ht : P.underlying t = some (.map kt e)) (k : κ) (hk : ∃ l, keyOf P kt (enc k) = some l) (v : Value) :
    ∃ w', (Instr.mapUpdate t (.map (some b)) (enc k) v).run P w = .ok () w' ∧ MapOf P kt enc w' b (mput m k v) ∧ w.grownBy w' (some b) ∧ w'.heap.size = w.heap.size := by
  have hnd := h.nodup
  obtain ⟨es, clock, hb, he, hks, hs⟩ := h
  obtain ⟨l, hl⟩ := hk
  have hks' : ∀ p ∈ mput m k v, ∃ l, keyOf P kt (enc p.1) = some l := by
    intro p hp
    rcases mput_mem hp with rfl | hp
    · exact ⟨l, hl⟩
    · exact hks p hp
  rcases MapOf.find_cases K hinj he hks w k ⟨l, hl⟩ hnd with ⟨h1, h2, _, h4⟩ | ⟨j, e0, h1, h2, h3, _, h5⟩
  · refine ⟨{ w with heap := w.heap.setIfInBounds b (.map (es.push ⟨enc k, v, clock⟩) (clock + 1)) }, ?_, ⟨es.push ⟨enc k, v, clock⟩, clock + 1, (MapKept.heap_set hb).1, ?_, hks', MapKept.stamped_push hs h2⟩, grown_set w hb, by simp⟩
    · simp [Instr.mapUpdate, run_underlying ht, MapKept.run_getObj_map hb, K.check w false hl, h1, MapKept.run_setObj_map _ hb, Result.andThen]
    · rw [h4, Array.toList_push, List.map_append, List.map_append, he]; rfl
  · have hj2 : es[j]? = some e0 := by simpa using h2
    obtain ⟨hj, h6⟩ := h5 v
    refine ⟨{ w with heap := w.heap.setIfInBounds b (.map (es.modify j fun e => { e with key := enc k, val := v }) clock) }, ?_, ⟨es.modify j fun e => { e with key := enc k, val := v }, clock, (MapKept.heap_set hb).1, ?_, hks', ?_⟩, grown_set w hb, by simp⟩
    · simp [Instr.mapUpdate, run_underlying ht, MapKept.run_getObj_map hb, K.check w false hl, h1, hj2, h3, K.stays w hl, MapKept.run_setObj_map _ hb, Result.andThen]
    · rw [h6]; exact map_set_entry he _ (fun e _ => ⟨rfl, rfl⟩)
    · exact MapKept.stamped_modify hs _ _ (fun _ _ => rfl) (fun e' _ he' => by rw [hj2] at he'; cases he'; exact h3.symm)

omit [DecidableEq κ] in
theorem findIdx?_list {α : Type} (xs : Array α) (p : α → Bool) : xs.findIdx? p = xs.toList.findIdx? p := by
  cases xs with | mk l => exact List.findIdx?_toArray p l
theorem MapOf.entry {t e : TypeId} (h : MapOf P kt enc w b m) (K : Keyed P kt) (hinj : ∀ x y, enc x = enc y → x = y) (ht : P.underlying t = some (.map kt e)) {z : Value} (hz : ∀ w, (zeroValue e).run P w = .ok z w) (k : κ) (hk : ∃ l, keyOf P kt (enc k) = some l) :
    ∃ w1 n, (Instr.mapEntry t (.map (some b)) (enc k)).run P w = .ok (.tuple #[(mget m k).getD z, .int .i64 n]) w1 ∧ w.grownBy w1 (some b) ∧ w1.heap.size = w.heap.size ∧ (∃ m1, MapOf P kt enc w1 b m1 ∧ mget m1 k = some ((mget m k).getD z)) ∧
      ∀ v, ∃ w2, (Instr.entryStore t (.map (some b)) (.int .i64 n) v).run P w1 = .ok () w2 ∧ MapOf P kt enc w2 b (mput m k v) ∧ w.grownBy w2 (some b) ∧ w2.heap.size = w.heap.size := by
  have hnd := h.nodup
  obtain ⟨es, clock, hb, he, hks, hs⟩ := h
  obtain ⟨l, hl⟩ := hk
  have hks' : ∀ v, ∀ p ∈ mput m k v, ∃ l, keyOf P kt (enc p.1) = some l := by
    intro v p hp
    rcases mput_mem hp with rfl | hp
    · exact ⟨l, hl⟩
    · exact hks p hp
  have hst := (MapKept.stamped_iff es clock).1 hs
  rcases MapOf.find_cases K hinj he hks w k ⟨l, hl⟩ hnd with ⟨h1, h2, h3, h4⟩ | ⟨j, e0, h1, h2, h3, h4, h5⟩
  · have hb1 : ({ w with heap := w.heap.setIfInBounds b (.map (es.push ⟨enc k, z, clock⟩) (clock + 1)) } : World).heap[b]? = some (.map (es.push ⟨enc k, z, clock⟩) (clock + 1)) := (MapKept.heap_set hb).1
    have hf : (es.push ⟨enc k, z, clock⟩).findIdx? (fun e => (e.born : Int) == (clock : Int)) = some es.size := by
      rw [findIdx?_list, List.findIdx?_eq_some_iff_getElem]
      refine ⟨by simp, by simp, fun i hi => ?_⟩
      have hi' : i < es.toList.length := by simpa using hi
      have e1 : (es.push ⟨enc k, z, clock⟩).toList[i]'(by simp; omega) = es.toList[i] := by simp [Array.toList_push, List.getElem_append_left hi']
      rw [e1]
      have h9 := hst.1 _ (List.getElem_mem hi')
      intro hc
      have h10 : (es.toList[i].born : Int) = clock := beq_iff_eq.1 hc
      omega
    refine ⟨{ w with heap := w.heap.setIfInBounds b (.map (es.push ⟨enc k, z, clock⟩) (clock + 1)) }, (clock : Int), ?_, grown_set w hb, by simp, ⟨mput m k z, ⟨es.push ⟨enc k, z, clock⟩, clock + 1, hb1, by rw [h4, Array.toList_push, List.map_append, List.map_append, he]; rfl, hks' z, MapKept.stamped_push hs h2⟩, by rw [mget_mput_same, h3]; rfl⟩, fun v => ⟨{ w with heap := w.heap.setIfInBounds b (.map ((es.push ⟨enc k, z, clock⟩).modify es.size fun e => { e with val := v }) (clock + 1)) }, ?_, ⟨(es.push ⟨enc k, z, clock⟩).modify es.size fun e => { e with val := v }, clock + 1, (MapKept.heap_set hb).1, ?_, hks' v, ?_⟩, grown_set w hb, by simp⟩⟩
    · rw [h3]; simp [Instr.mapEntry, run_underlying ht, MapKept.run_getObj_map hb, K.check w false hl, h1, MapKept.run_setObj_map _ hb, Result.andThen, hz, goInt]
    · simp only [Instr.entryStore]
      simp [MapKept.run_getObj_map hb1, asInt, asIntOf, hf, MapKept.run_setObj_map _ hb1, Result.andThen]
    · have hpush : (es.push ⟨enc k, z, clock⟩).toList.map (fun e => (e.key, e.val)) = (m ++ [(k, z)]).map (fun p => (enc p.1, p.2)) := by rw [Array.toList_push, List.map_append, List.map_append, he]; rfl
      have hlen : es.size = m.length := by have := congrArg List.length he; simpa using this
      rw [h4, map_set_entry (k := k) (v := v) hpush _ (fun e he2 => ?_)]
      · rw [hlen]; simp
      · have : e = ⟨enc k, z, clock⟩ := by
          rw [Array.toList_push, List.getElem?_append_right (by simp)] at he2
          simpa using he2.symm
        subst this
        exact ⟨rfl, rfl⟩
    · exact MapKept.stamped_modify (MapKept.stamped_push hs h2) _ _ (fun _ _ => rfl) (fun _ _ _ => rfl)
  · have hj2 : es[j]? = some e0 := by simpa using h2
    obtain ⟨hj, _⟩ := h5 z
    have hjs : j < es.size := (Array.getElem?_eq_some_iff.1 hj2).1
    have hb1 : ({ w with heap := w.heap.setIfInBounds b (.map (es.modify j fun e => { e with key := enc k }) clock) } : World).heap[b]? = some (.map (es.modify j fun e => { e with key := enc k }) clock) := (MapKept.heap_set hb).1
    have hs1 : Stamped (es.modify j fun e => { e with key := enc k }) clock := MapKept.stamped_modify hs _ _ (fun _ _ => rfl) (fun e' _ he' => by rw [hj2] at he'; cases he'; exact h3.symm)
    have hf : (es.modify j fun e => { e with key := enc k }).findIdx? (fun e => (e.born : Int) == (e0.born : Int)) = some j := by
      rw [findIdx?_list, List.findIdx?_eq_some_iff_getElem]
      have hn := hst.2.1
      have g : ∀ i (hi : i < es.toList.length), ((es.modify j fun e => { e with key := enc k }).toList[i]'(by simpa using hi)).born = es.toList[i].born := by
        intro i hi
        simp only [Array.toList_modify, List.getElem_modify]
        split <;> rfl
      refine ⟨by simpa using hjs, by rw [g j (by simpa using hjs)]; simp [(Array.getElem?_eq_some_iff.1 hj2).2], fun i hi => ?_⟩
      have hi' : i < es.toList.length := by simp; omega
      rw [g i hi']
      intro hc
      have h6 : es.toList[i].born = e0.born := by have := beq_iff_eq.1 hc; omega
      have h7 : es.toList[j]'(by simpa using hjs) = e0 := by simp [(Array.getElem?_eq_some_iff.1 hj2).2]
      have h8 : (es.toList.map (·.born))[i]'(by simpa using hi') = (es.toList.map (·.born))[j]'(by simpa using hjs) := by simp only [List.getElem_map, h6, h7]
      have := (List.getElem_inj hn).1 h8
      omega
    refine ⟨{ w with heap := w.heap.setIfInBounds b (.map (es.modify j fun e => { e with key := enc k }) clock) }, (e0.born : Int), ?_, grown_set w hb, by simp, ⟨mput m k e0.val, ⟨es.modify j fun e => { e with key := enc k }, clock, hb1, by obtain ⟨_, h6⟩ := h5 e0.val; rw [h6]; exact map_set_entry he _ (fun e he2 => by rw [h2] at he2; cases he2; exact ⟨rfl, rfl⟩), hks' _, hs1⟩, by rw [mget_mput_same, h4]; rfl⟩, fun v => ⟨{ w with heap := w.heap.setIfInBounds b (.map ((es.modify j fun e => { e with key := enc k }).modify j fun e => { e with val := v }) clock) }, ?_, ⟨(es.modify j fun e => { e with key := enc k }).modify j fun e => { e with val := v }, clock, (MapKept.heap_set hb).1, ?_, hks' v, ?_⟩, grown_set w hb, by simp⟩⟩
    · rw [h4]; simp [Instr.mapEntry, run_underlying ht, MapKept.run_getObj_map hb, K.check w false hl, h1, hj2, h3, K.stays w hl, MapKept.run_setObj_map _ hb, Result.andThen, goInt]
    · simp only [Instr.entryStore]
      simp [MapKept.run_getObj_map hb1, asInt, asIntOf, hf, MapKept.run_setObj_map _ hb1, Result.andThen]
    · obtain ⟨_, h6⟩ := h5 v
      have h7 := map_set_entry (k := k) (v := e0.val) he (fun e => { e with key := enc k }) (j := j) (fun e he2 => by rw [h2] at he2; cases he2; exact ⟨rfl, rfl⟩)
      rw [h6, map_set_entry (k := k) (v := v) h7 _ (fun e he2 => ?_)]
      · simp
      · rw [Array.toList_modify, List.getElem?_modify, h2] at he2
        simp at he2
        subst he2
        exact ⟨rfl, rfl⟩
    · exact MapKept.stamped_modify hs1 _ _ (fun _ _ => rfl) (fun _ _ _ => rfl)

/-! ### at the operations -/
variable {ops : Array Oper} {rest : List Oper} {o : Oper} {a : Act} {Q : Exit → Act → World → Prop}
theorem wpList_lookup_map (hg : o.guard = none) (mO x : Operand) (t e : TypeId) (hop : o.op = Op.lookup t mO x false) (K : Keyed P kt) (hinj : ∀ x y, enc x = enc y → x = y) (ht : P.underlying t = some (.map kt e)) {z : Value} (hz : ∀ w, (zeroValue e).run P w = .ok z w)
    (hm : a.eval mO = .map (some b)) (h : MapOf P kt enc w b m) (k : κ) (hx : a.eval x = enc k) (hk : ∃ l, keyOf P kt (enc k) = some l) (v : Value) (hv : (mget m k).getD z = v) (hK : wpList P ops Q rest (a.put o.dst v) w) :
    wpList P ops Q (o :: rest) a w := by
  refine wpList_plain hg fun K' hK' => ?_
  have hrun := h.lookup K hinj ht (hz w) k hk false
  unfold Oper.wp
  simp [execOp, hop, hm, hx, hrun, Result.andThen]
  exact hK' _ _ (by rw [hv]; exact hK)
theorem wpList_update_map (hg : o.guard = none) (mO x v : Operand) (t e : TypeId) (hop : o.op = Op.mapUpdate t mO x v) (K : Keyed P kt) (hinj : ∀ x y, enc x = enc y → x = y) (ht : P.underlying t = some (.map kt e))
    (hm : a.eval mO = .map (some b)) (h : MapOf P kt enc w b m) (k : κ) (hx : a.eval x = enc k) (hk : ∃ l, keyOf P kt (enc k) = some l) (val : Value) (hv : a.eval v = val)
    (hK : ∀ w', MapOf P kt enc w' b (mput m k val) → w.grownBy w' (some b) → w'.heap.size = w.heap.size → wpList P ops Q rest (a.put o.dst undef) w') :
    wpList P ops Q (o :: rest) a w := by
  refine wpList_plain hg fun K' hK' => ?_
  obtain ⟨w', hrun, r1, r2, r3⟩ := h.update K hinj ht k hk val
  unfold Oper.wp
  simp [execOp, hop, hm, hx, hv, hrun, Result.andThen]
  exact hK' _ _ (hK w' r1 r2 r3)
end
end Go.Proofs.Ytjomlfdkmdgclaa.P
