/-
  A map keyed by strings, told by the list of its entries: what a lookup, a store, a delete, len, a range over it does.
-/
import Derived.Test.YthekilgolelomaaBase
import Derived.Maps.RangeRun
set_option linter.unusedSimpArgs false
set_option linter.unusedVariables false
namespace Go.Fl
open Go.RowKit

/-- A string's value. -/
abbrev sk (x : List UInt8) : Value := .string ⟨x.toArray⟩
theorem sk_beq (x y : List UInt8) : ((⟨x.toArray⟩ : ByteArray) == ⟨y.toArray⟩) = (x == y) := by
  show (x.toArray == y.toArray) = (x == y)
  rw [Bool.eq_iff_iff, beq_iff_eq, beq_iff_eq]
  constructor
  · intro h
    injection h
  · intro h
    rw [h]
def kvs (es : Array MapEntry) : List (Value × Value) := es.toList.map fun e => (e.key, e.val)
def skv (m : List (List UInt8 × Value)) : List (Value × Value) := m.map fun p => (sk p.1, p.2)
/-- Entries that stand for m; their stamps rise, below the clock. -/
structure SEs (es : Array MapEntry) (clock : Nat) (m : List (List UInt8 × Value)) : Prop where
  kv : kvs es = skv m
  up : (es.toList.map (·.born)).Pairwise (· < ·)
  lt : ∀ e ∈ es.toList, e.born < clock
  nod : (m.map (·.1)).Nodup
/-- Block b is a map with just the entries m, in the order in which they came. -/
def SMap (w : World) (b : Nat) (m : List (List UInt8 × Value)) : Prop := ∃ es clock, w.heap[b]? = some (.map es clock) ∧ SEs es clock m

def sHas (m : List (List UInt8 × Value)) (x : List UInt8) : Bool := m.any fun p => p.1 == x
def sGet (m : List (List UInt8 × Value)) (x : List UInt8) (z : Value) : Value := ((m.find? fun p => p.1 == x).map (·.2)).getD z
def sPut : List (List UInt8 × Value) → List UInt8 → Value → List (List UInt8 × Value)
  | [], x, v => [(x, v)]
  | p :: m, x, v => if p.1 == x then (x, v) :: m else p :: sPut m x v
def sDel (m : List (List UInt8 × Value)) (x : List UInt8) : List (List UInt8 × Value) := m.eraseP fun p => p.1 == x

section
variable {P : Program} {w w' : World} {b : Nat} {m : List (List UInt8 × Value)}
theorem SMap.keep (h : SMap w b m) (hb : w'.heap[b]? = w.heap[b]?) : SMap w' b m := by
  obtain ⟨es, c, h1, h2⟩ := h
  exact ⟨es, c, hb.trans h1, h2⟩
theorem SMap.lt (h : SMap w b m) : b < w.heap.size := by
  obtain ⟨es, c, h1, _⟩ := h
  exact (Array.getElem?_eq_some_iff.1 h1).1
theorem SMap.nod (h : SMap w b m) : (m.map (·.1)).Nodup := by
  obtain ⟨es, c, _, h2⟩ := h
  exact h2.nod
theorem SMap.only {S : List Nat} (h : SMap w b m) (ho : Only S w w') (hS : b ∉ S) : SMap w' b m := h.keep (ho.block b h.lt hS)
theorem SMap.drew (h : SMap w b m) : SMap w.drew b m := h
theorem SMap.drewN (h : SMap w b m) (n : Nat) : SMap (w.drewN n) b m := h
theorem SMap.alloc (h : SMap w b m) (o : Obj) : SMap (w.alloc o) b m := h.keep (Below.heap_alloc w o b h.lt)
theorem SMap.not_cells (h : SMap w b m) {g : Nat} {t : TypeId} {cs : Array Value} (hg : Blk w g t cs) : b ≠ g := by
  rintro rfl
  obtain ⟨es, c, h1, _⟩ := h
  unfold Blk at hg
  rw [h1] at hg
  cases hg
theorem SMap.far (h : SMap w b m) {p : Addr} (hp : b ≠ p.block) (u : Value) : SMap (w.setCell p u) b m := h.keep (Below.heap_setCell w p u b hp)
theorem SMap.new (w : World) : SMap (w.alloc (.map #[] 0)) w.heap.size [] := ⟨#[], 0, heap_alloc_new w _, rfl, List.Pairwise.nil, fun e he => (by simp at he), List.nodup_nil⟩

theorem find_sk (x : List UInt8) : ∀ (es : List MapEntry) (m : List (List UInt8 × Value)) (i : Nat), es.map (fun e => (e.key, e.val)) = m.map (fun p => (sk p.1, p.2)) →
    Instr.findNow .string (sk x) es i = some ((m.findIdx? fun p => p.1 == x).map fun j => (i + j, sGet m x (.tuple #[])))
  | [], [], i, _ => rfl
  | [], _ :: _, _, h => by cases h
  | _ :: _, [], _, h => by cases h
  | e :: es, p :: m, i, h => by
    simp only [List.map_cons, List.cons.injEq, Prod.mk.injEq] at h
    obtain ⟨⟨hk, hv⟩, hr⟩ := h
    unfold Instr.findNow
    rw [hk]
    simp only [Instr.sameNow, sk_beq]
    by_cases hx : x = p.1
    · subst hx
      simp [List.findIdx?_cons, sGet, hv]
    · have hx' : (x == p.1) = false := by simpa using hx
      have hx2 : (p.1 == x) = false := by simpa using fun h => hx h.symm
      rw [hx']
      simp only [find_sk x es m (i + 1) hr, List.findIdx?_cons, hx2, Bool.false_eq_true, if_false, Option.map_map, sGet, List.find?_cons]
      congr 2
      funext j
      simp only [Function.comp, Prod.mk.injEq, and_true]
      omega
theorem run_checkSk {b : Bool} {kt : TypeId} {n : Nat} {x : List UInt8} (hk : P.underlying kt = some .string) : (Instr.checkKey b (n + 1) kt (sk x)).run P w = .ok () w := by
  simp [Instr.checkKey, run_underlying hk]
theorem run_findSk {kt : TypeId} {x : List UInt8} {es : Array MapEntry} (hk : P.underlying kt = some .string) (h : kvs es = skv m) :
    (Instr.findKey kt (sk x) es.toList).run P w = .ok ((m.findIdx? fun p => p.1 == x).map fun j => (j, sGet m x (.tuple #[]))) w := by
  simp only [Instr.findKey, Sem.run_bind, run_underlying hk, Result.andThen_ok, find_sk x es.toList m 0 h]
  simp
theorem run_getObj_smap {es : Array MapEntry} {c : Nat} (h : w.heap[b]? = some (.map es c)) : (getObj b).run P w = .ok (.map es c) w := by
  simp [getObj, Sem.run, h]
theorem sIdx_none {x : List UInt8} (h : m.findIdx? (fun p => p.1 == x) = none) : sHas m x = false := by
  rw [List.findIdx?_eq_none_iff] at h
  unfold sHas
  rw [List.any_eq_false]
  exact fun p hp => by simpa using h p hp
theorem sIdx_some {x : List UInt8} {j : Nat} (h : m.findIdx? (fun p => p.1 == x) = some j) : sHas m x = true := by
  rw [List.findIdx?_eq_some_iff_getElem] at h
  obtain ⟨hj, hp, _⟩ := h
  unfold sHas
  rw [List.any_eq_true]
  exact ⟨m[j], List.getElem_mem _, hp⟩
theorem sGet_none {x : List UInt8} {z : Value} (h : m.findIdx? (fun p => p.1 == x) = none) : sGet m x z = z := by
  have := sIdx_none h
  unfold sHas at this
  unfold sGet
  have hn : m.find? (fun p => p.1 == x) = none := by
    rw [List.find?_eq_none]; rw [List.any_eq_false] at this; exact this
  rw [hn]; rfl
theorem sGet_some {x : List UInt8} {j : Nat} {z : Value} (h : m.findIdx? (fun p => p.1 == x) = some j) : sGet m x (.tuple #[]) = sGet m x z := by
  have := sIdx_some h
  unfold sHas at this
  unfold sGet
  cases hf : m.find? (fun p => p.1 == x) with
  | none => rw [List.find?_eq_none] at hf; rw [List.any_eq_true] at this; obtain ⟨p, hp, hx⟩ := this; exact absurd hx (hf p hp)
  | some p => rfl
theorem run_zeroOf {e : TypeId} {z : Value} (hz : (P.info? e).bind (·.zero) = some z) : (zeroValue e).run P w = .ok z w := by
  cases hi : P.info? e with
  | none => rw [hi] at hz; cases hz
  | some i => rw [hi] at hz; simp [zeroValue, typeInfo, hi, show i.zero = some z from hz]
/-- 'v, ok := m[x]' -/
theorem run_slookup_ok {t kt e : TypeId} {x : List UInt8} {z : Value} (h : SMap w b m) (ht : P.underlying t = some (.map kt e)) (hk : P.underlying kt = some .string) (hz : (P.info? e).bind (·.zero) = some z) :
    (Instr.lookup t (.map (some b)) (sk x) true).run P w = .ok (.tuple #[sGet m x z, .bool (sHas m x)]) w := by
  obtain ⟨es, c, hb, he⟩ := h
  unfold Instr.lookup
  simp only [Sem.run_bind, run_underlying ht, Result.andThen_ok, run_getObj_smap hb, Sem.run_pure, run_checkSk (b := es.isEmpty) (n := 9999) hk, run_findSk hk he.kv]
  cases hf : m.findIdx? (fun p => p.1 == x) with
  | none => simp [run_zeroOf hz, sIdx_none hf, sGet_none hf, Result.andThen]
  | some j => simp [sIdx_some hf, sGet_some (z := z) hf]
/-- 'm[x]' -/
theorem run_slookup {t kt e : TypeId} {x : List UInt8} {z : Value} (h : SMap w b m) (ht : P.underlying t = some (.map kt e)) (hk : P.underlying kt = some .string) (hz : (P.info? e).bind (·.zero) = some z) :
    (Instr.lookup t (.map (some b)) (sk x) false).run P w = .ok (sGet m x z) w := by
  obtain ⟨es, c, hb, he⟩ := h
  unfold Instr.lookup
  simp only [Sem.run_bind, run_underlying ht, Result.andThen_ok, run_getObj_smap hb, Sem.run_pure, run_checkSk (b := es.isEmpty) (n := 9999) hk, run_findSk hk he.kv]
  cases hf : m.findIdx? (fun p => p.1 == x) with
  | none => simp [run_zeroOf hz, sGet_none hf]
  | some j => simp [sGet_some (z := z) hf]
/-- 'm[x]' of a nil map -/
theorem run_slookup_nil {t kt e : TypeId} {x : List UInt8} {z : Value} (ht : P.underlying t = some (.map kt e)) (hk : P.underlying kt = some .string) (hz : (P.info? e).bind (·.zero) = some z) :
    (Instr.lookup t (.map none) (sk x) false).run P w = .ok z w := by
  unfold Instr.lookup
  simp only [Sem.run_bind, run_underlying ht, Result.andThen_ok, Sem.run_pure, run_checkSk (b := true) (n := 9999) hk]
  have : (Instr.findKey kt (sk x) (#[] : Array MapEntry).toList).run P w = .ok none w := by
    simp [Instr.findKey, Sem.run_bind, run_underlying hk, Instr.findNow]
  simp [this, run_zeroOf hz, run_checkSk (b := true) (n := 9999) hk]

def World.setObjS (w : World) (b : Nat) (o : Obj) : World := { w with heap := w.heap.setIfInBounds b o }
theorem run_setObj_smap {es : Array MapEntry} {c : Nat} {o : Obj} (h : w.heap[b]? = some (.map es c)) : (setObj b o).run P w = .ok () (World.setObjS w b o) := by
  simp [Go.setObj, Sem.run, h, World.setObjS]
theorem setObjS_only (w : World) (b : Nat) (o : Obj) : Only [b] w (World.setObjS w b o) :=
  ⟨rfl, rfl, rfl, by simp [World.setObjS], fun k hk hs => by
    have : b ≠ k := fun e => hs (by simp [e])
    simp [World.setObjS, Array.getElem?_setIfInBounds_ne this]⟩
theorem setObjS_heap {o : Obj} (h : b < w.heap.size) : (World.setObjS w b o).heap[b]? = some o := by simp [World.setObjS, h]

theorem sPut_push {x : List UInt8} {v : Value} : ∀ (m : List (List UInt8 × Value)), m.findIdx? (fun p => p.1 == x) = none → sPut m x v = m ++ [(x, v)]
  | [], _ => rfl
  | p :: m, h => by
    rw [List.findIdx?_cons] at h
    unfold sPut
    cases hp : p.1 == x with
    | true => rw [hp] at h; simp at h
    | false =>
      rw [hp] at h
      simp only [Bool.false_eq_true, if_false, Option.map_eq_none_iff] at h
      simp [sPut_push m h]
theorem sPut_set {x : List UInt8} {v : Value} : ∀ (m : List (List UInt8 × Value)) (j : Nat), m.findIdx? (fun p => p.1 == x) = some j → sPut m x v = m.set j (x, v)
  | [], _, h => by cases h
  | p :: m, j, h => by
    rw [List.findIdx?_cons] at h
    unfold sPut
    cases hp : p.1 == x with
    | true =>
      rw [hp] at h
      simp only [if_true, Option.some.injEq] at h
      subst h; simp
    | false =>
      rw [hp] at h
      simp only [Bool.false_eq_true, if_false, Option.map_eq_some_iff] at h
      obtain ⟨i, hi, rfl⟩ := h
      simp [sPut_set m i hi]
theorem sPut_keys {x : List UInt8} {v : Value} (m : List (List UInt8 × Value)) : (sPut m x v).map (·.1) = if sHas m x = true then m.map (·.1) else m.map (·.1) ++ [x] := by
  induction m with
  | nil => rfl
  | cons p m ih =>
    unfold sPut
    have hs : sHas (p :: m) x = (p.1 == x || sHas m x) := rfl
    rw [hs]
    cases hp : p.1 == x with
    | true =>
      have : p.1 = x := by simpa using hp
      simp [this]
    | false =>
      simp only [Bool.false_eq_true, if_false, Bool.false_or, List.map_cons, ih]
      split <;> rfl
theorem sHas_mem {x : List UInt8} {m : List (List UInt8 × Value)} : sHas m x = true ↔ x ∈ m.map (·.1) := by
  unfold sHas
  rw [List.any_eq_true, List.mem_map]
  constructor
  · rintro ⟨p, hp, e⟩
    exact ⟨p, hp, by simpa using e⟩
  · rintro ⟨p, hp, e⟩
    exact ⟨p, hp, by simpa using e⟩
theorem sPut_nod {x : List UInt8} {v : Value} {m : List (List UInt8 × Value)} (h : (m.map (·.1)).Nodup) : ((sPut m x v).map (·.1)).Nodup := by
  rw [sPut_keys]
  split
  · exact h
  · rename_i hn
    rw [List.nodup_append]
    refine ⟨h, by simp, fun a ha b hb => ?_⟩
    rw [List.mem_singleton.1 hb]
    rintro rfl
    exact hn (sHas_mem.2 ha)
theorem skey_at {es : Array MapEntry} {x : List UInt8} {j : Nat} (h : kvs es = skv m) (hf : m.findIdx? (fun p => p.1 == x) = some j) : ∃ hj : j < es.size, es[j].key = sk x := by
  rw [List.findIdx?_eq_some_iff_getElem] at hf
  obtain ⟨hj, hp, _⟩ := hf
  have hl : es.toList.length = m.length := by have := congrArg List.length h; simpa [kvs, skv] using this
  have hj' : j < es.size := by rw [Array.length_toList] at hl; omega
  refine ⟨hj', ?_⟩
  have h2 := congrArg (fun l => l[j]?) h
  simp only [kvs, skv, List.getElem?_map, Array.getElem?_toList, Array.getElem?_eq_getElem hj', List.getElem?_eq_getElem hj, Option.map_some, Option.some.injEq, Prod.mk.injEq] at h2
  rw [h2.1]
  have : m[j].1 = x := by simpa using hp
  rw [this]
/-- 'm[x] = v' -/
theorem run_smapUpdate {t kt e : TypeId} {x : List UInt8} {v : Value} (h : SMap w b m) (ht : P.underlying t = some (.map kt e)) (hk : P.underlying kt = some .string) :
    ∃ w', (Instr.mapUpdate t (.map (some b)) (sk x) v).run P w = .ok () w' ∧ SMap w' b (sPut m x v) ∧ Only [b] w w' ∧ w'.heap.size = w.heap.size := by
  have hlt := h.lt
  obtain ⟨es, c, hb, he⟩ := h
  unfold Instr.mapUpdate
  simp only [Sem.run_bind, run_underlying ht, Result.andThen_ok, run_getObj_smap hb, run_checkSk (b := false) (n := 9999) hk, run_findSk hk he.kv]
  cases hf : m.findIdx? (fun p => p.1 == x) with
  | none =>
    simp only [Option.map_none, run_setObj_smap hb]
    refine ⟨_, rfl, ⟨_, _, setObjS_heap hlt, ?_, ?_, ?_, sPut_nod he.nod⟩, setObjS_only _ _ _, by simp [World.setObjS]⟩
    · have := he.kv
      unfold kvs skv at this ⊢
      simp [this, sPut_push m hf]
    · rw [Array.toList_push, List.map_append, List.pairwise_append]
      refine ⟨he.up, by simp, fun a ha b hb => ?_⟩
      obtain ⟨y, hy, rfl⟩ := List.mem_map.1 ha
      have := he.lt y hy
      simp at hb
      omega
    · intro y hy
      rw [Array.toList_push] at hy
      rcases List.mem_append.1 hy with hy | hy
      · have := he.lt y hy
        omega
      · rw [List.mem_singleton.1 hy]
        exact Nat.lt_succ_self _
  | some j =>
    obtain ⟨hj, hkey⟩ := skey_at he.kv hf
    have hkr : (Instr.keyThatStays (((es[j]?).map (·.key)).getD (sk x)) (sk x)).run P w = .ok (sk x) w := by
      rw [Array.getElem?_eq_getElem hj]
      simp only [Option.map_some, Option.getD_some, hkey]
      have hbb : ((⟨x.toArray⟩ : ByteArray) == ⟨x.toArray⟩) = true := by rw [sk_beq]; exact beq_self_eq_true x
      simp [Instr.keyThatStays, Instr.sameBits, hbb]
    simp only [Option.map_some, Sem.run_bind, hkr, Result.andThen_ok, run_setObj_smap hb]
    have hborn : ∀ f : MapEntry → MapEntry, (∀ y, (f y).born = y.born) → (es.modify j f).toList.map (·.born) = es.toList.map (·.born) := fun f hfb => by
      apply List.ext_getElem?
      intro i
      simp only [List.getElem?_map, Array.getElem?_toList, Array.getElem?_modify]
      by_cases hij : j = i
      · subst hij
        cases es[j]? <;> simp [hfb]
      · simp [hij]
    refine ⟨_, rfl, ⟨_, _, setObjS_heap hlt, ?_, ?_, ?_, sPut_nod he.nod⟩, setObjS_only _ _ _, by simp [World.setObjS]⟩
    · have h0 := he.kv
      unfold kvs skv at h0 ⊢
      rw [sPut_set m j hf, List.map_set, ← h0]
      apply List.ext_getElem?
      intro i
      simp only [List.getElem?_map, Array.getElem?_toList, Array.getElem?_modify, List.getElem?_set]
      by_cases hij : j = i
      · subst hij
        simp [hj]
      · simp [hij]
    · rw [hborn (fun e => { e with key := sk x, val := v }) fun _ => rfl]
      exact he.up
    · intro y hy
      have h1 : y.born ∈ (es.modify j (fun e => { e with key := sk x, val := v })).toList.map (·.born) := List.mem_map.2 ⟨y, hy, rfl⟩
      rw [hborn (fun e => { e with key := sk x, val := v }) fun _ => rfl] at h1
      obtain ⟨z, hz, e⟩ := List.mem_map.1 h1
      rw [← e]
      exact he.lt z hz
theorem sDel_none {x : List UInt8} (hf : m.findIdx? (fun p => p.1 == x) = none) : sDel m x = m := by
  unfold sDel
  rw [List.eraseP_of_forall_not]
  intro p hp
  rw [List.findIdx?_eq_none_iff] at hf
  simpa using hf p hp
theorem sDel_some {x : List UInt8} {j : Nat} (hf : m.findIdx? (fun p => p.1 == x) = some j) : sDel m x = m.eraseIdx j := by
  unfold sDel
  rw [List.eraseP_eq_eraseIdx, hf]
theorem map_eraseIdx' {α β : Type} (f : α → β) (l : List α) (i : Nat) : (l.eraseIdx i).map f = (l.map f).eraseIdx i := by
  induction l generalizing i with
  | nil => rfl
  | cons x l ih => cases i <;> simp [*]
theorem sDel_nod {x : List UInt8} (h : (m.map (·.1)).Nodup) : ((sDel m x).map (·.1)).Nodup := h.sublist ((List.eraseP_sublist ..).map _)
/-- 'delete(m, x)' -/
theorem run_sdelete {t kt e ty : TypeId} {x : List UInt8} (h : SMap w b m) (ht : P.underlying t = some (.map kt e)) (hk : P.underlying kt = some .string) :
    ∃ w', (Builtin.delete_ #[t, kt] ty #[.map (some b), sk x]).run P w = .ok (.tuple #[]) w' ∧ SMap w' b (sDel m x) ∧ Only [b] w w' ∧ w'.heap.size = w.heap.size := by
  have hlt := h.lt
  obtain ⟨es, c, hb, he⟩ := h
  unfold Builtin.delete_
  simp only [List.getElem?_toArray, List.getElem?_cons_zero, List.getElem?_cons_succ, Sem.run_bind, run_underlying ht, Result.andThen_ok, run_getObj_smap hb, run_checkSk (b := es.isEmpty) (n := 9999) hk, run_findSk hk he.kv]
  cases hf : m.findIdx? (fun p => p.1 == x) with
  | none =>
    simp only [Option.map_none, Sem.run_bind, run_setObj_smap hb, Result.andThen_ok, Sem.run_pure]
    exact ⟨_, rfl, ⟨_, _, setObjS_heap hlt, by rw [sDel_none hf]; exact he⟩, setObjS_only _ _ _, by simp [World.setObjS]⟩
  | some j =>
    obtain ⟨hj, hkey⟩ := skey_at he.kv hf
    simp only [Option.map_some, Sem.run_bind, run_setObj_smap hb, Result.andThen_ok, Sem.run_pure]
    refine ⟨_, rfl, ⟨_, _, setObjS_heap hlt, ?_, ?_, ?_, sDel_nod he.nod⟩, setObjS_only _ _ _, by simp [World.setObjS]⟩
    · have h0 := he.kv
      unfold kvs skv at h0 ⊢
      rw [sDel_some hf]
      simp only [Array.eraseIdxIfInBounds, hj, dif_pos, Array.toList_eraseIdx]
      rw [map_eraseIdx', h0, map_eraseIdx']
    · simp only [Array.eraseIdxIfInBounds, hj, dif_pos, Array.toList_eraseIdx]
      exact he.up.sublist ((List.eraseIdx_sublist _ _).map _)
    · intro y hy
      simp only [Array.eraseIdxIfInBounds, hj, dif_pos, Array.toList_eraseIdx] at hy
      exact he.lt y (List.mem_of_mem_eraseIdx hy)
/-- 'len(m)' -/
theorem run_slen {t kt e ty : TypeId} (h : SMap w b m) (ht : P.underlying t = some (.map kt e)) : (Builtin.len_ #[t] ty #[.map (some b)]).run P w = .ok (.int .i64 m.length) w := by
  obtain ⟨es, c, hb, he⟩ := h
  have hl : es.size = m.length := by have := congrArg List.length he.kv; simpa [kvs, skv] using this
  unfold Builtin.len_
  simp [Sem.run_bind, run_underlying ht, run_getObj_smap hb, goInt, hl]
theorem sGet_mem {x : List UInt8} {v z : Value} (hn : (m.map (·.1)).Nodup) (h : (x, v) ∈ m) : sGet m x z = v ∧ sHas m x = true := by
  refine ⟨?_, sHas_mem.2 (List.mem_map.2 ⟨_, h, rfl⟩)⟩
  unfold sGet
  induction m with
  | nil => cases h
  | cons p m ih =>
    rw [List.map_cons, List.nodup_cons] at hn
    rcases List.mem_cons.1 h with rfl | h'
    · simp
    · have hne : (p.1 == x) = false := by
        rw [beq_eq_false_iff_ne]
        rintro rfl
        exact hn.1 (List.mem_map.2 ⟨_, h', rfl⟩)
      rw [List.find?_cons, hne]
      exact ih hn.2 h'
theorem sGet_not {x : List UInt8} {z : Value} (h : ∀ p ∈ m, p.1 ≠ x) : sGet m x z = z ∧ sHas m x = false := by
  refine ⟨?_, ?_⟩
  · unfold sGet
    rw [List.find?_eq_none.2 fun p hp => by simpa using h p hp]
    rfl
  · unfold sHas
    rw [List.any_eq_false]
    exact fun p hp => by simpa using h p hp
theorem sPut_perm {x : List UInt8} {v : Value} : ∀ {m : List (List UInt8 × Value)}, (m.map (·.1)).Nodup → (sPut m x v).Perm ((x, v) :: m.filter fun p => !(p.1 == x))
  | [], _ => List.Perm.refl _
  | p :: m, h => by
    rw [List.map_cons, List.nodup_cons] at h
    unfold sPut
    cases hp : p.1 == x with
    | true =>
      have e : p.1 = x := by simpa using hp
      simp only [if_true, List.filter_cons, hp, Bool.not_true, Bool.false_eq_true, if_false]
      rw [List.filter_eq_self.2 fun q hq => ?_]
      have : q.1 ≠ x := by
        rw [← e]
        intro e2
        exact h.1 (List.mem_map.2 ⟨q, hq, e2⟩)
      simpa using this
    | false =>
      simp only [Bool.false_eq_true, if_false, List.filter_cons, hp, Bool.not_false, if_true]
      exact ((List.perm_cons p).2 (sPut_perm h.2)).trans (List.Perm.swap _ _ _)
theorem sDel_filter {x : List UInt8} : ∀ {m : List (List UInt8 × Value)}, (m.map (·.1)).Nodup → sDel m x = m.filter fun p => !(p.1 == x)
  | [], _ => rfl
  | p :: m, h => by
    rw [List.map_cons, List.nodup_cons] at h
    unfold sDel
    rw [List.eraseP_cons, List.filter_cons]
    cases hp : p.1 == x with
    | true =>
      have e : p.1 = x := by simpa using hp
      simp only [cond_true, Bool.not_true, Bool.false_eq_true, if_false]
      rw [List.filter_eq_self.2 fun q hq => ?_]
      have : q.1 ≠ x := by
        rw [← e]
        intro e2
        exact h.1 (List.mem_map.2 ⟨q, hq, e2⟩)
      simpa using this
    | false =>
      simp only [cond_false, Bool.not_false, if_true]
      have := sDel_filter (x := x) h.2
      unfold sDel at this
      rw [this]
end
end Go.Fl
