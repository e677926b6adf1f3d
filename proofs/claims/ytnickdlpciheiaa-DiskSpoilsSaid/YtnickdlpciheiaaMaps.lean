/-
  A map keyed by integers of one kind, told by the list of its entries: what a lookup, a store, a delete, a clear does.
-/
import Derived.Test.YtnickdlpciheiaaBase
set_option linter.unusedSimpArgs false
set_option linter.unusedVariables false
namespace Go.Fl
open Go.RowKit

/-- Block b is a map with just the entries m, in the order in which they came. -/
def IMap (w : World) (b : Nat) (k : IntKind) (m : List (Int × Value)) : Prop :=
  ∃ es clock, w.heap[b]? = some (.map es clock) ∧ es.toList.map (fun e => (e.key, e.val)) = m.map (fun p => (Value.int k p.1, p.2))

def mapHas (m : List (Int × Value)) (x : Int) : Bool := m.any fun p => p.1 == x
def mapGet (m : List (Int × Value)) (x : Int) (z : Value) : Value := ((m.find? fun p => p.1 == x).map (·.2)).getD z
def mapPut : List (Int × Value) → Int → Value → List (Int × Value)
  | [], x, v => [(x, v)]
  | p :: m, x, v => if p.1 == x then (x, v) :: m else p :: mapPut m x v
def mapDel (m : List (Int × Value)) (x : Int) : List (Int × Value) := m.eraseP fun p => p.1 == x

section
variable {P : Program} {w w' : World} {b : Nat} {k : IntKind} {m : List (Int × Value)}
theorem IMap.keep (h : IMap w b k m) (hb : w'.heap[b]? = w.heap[b]?) : IMap w' b k m := by
  obtain ⟨es, c, h1, h2⟩ := h
  exact ⟨es, c, hb.trans h1, h2⟩
theorem IMap.lt (h : IMap w b k m) : b < w.heap.size := by
  obtain ⟨es, c, h1, _⟩ := h
  exact (Array.getElem?_eq_some_iff.1 h1).1
theorem IMap.only {S : List Nat} (h : IMap w b k m) (ho : Only S w w') (hS : b ∉ S) : IMap w' b k m := h.keep (ho.block b h.lt hS)
theorem IMap.drew (h : IMap w b k m) : IMap w.drew b k m := h
theorem IMap.drewN (h : IMap w b k m) (n : Nat) : IMap (w.drewN n) b k m := h
theorem IMap.alloc (h : IMap w b k m) (o : Obj) : IMap (w.alloc o) b k m := h.keep (Below.heap_alloc w o b h.lt)
theorem IMap.not_cells (h : IMap w b k m) {g : Nat} {t : TypeId} {cs : Array Value} (hg : Blk w g t cs) : b ≠ g := by
  rintro rfl
  obtain ⟨es, c, h1, _⟩ := h
  unfold Blk at hg
  rw [h1] at hg
  cases hg
theorem IMap.far (h : IMap w b k m) {p : Addr} (hp : b ≠ p.block) (u : Value) : IMap (w.setCell p u) b k m := h.keep (Below.heap_setCell w p u b hp)
theorem IMap.setCell (h : IMap w b k m) (p : Addr) (u : Value) : IMap (w.setCell p u) b k m := by
  obtain ⟨es, c, h1, h2⟩ := h
  refine ⟨es, c, ?_, h2⟩
  simp only [World.setCell, Array.getElem?_modify]
  split
  · rw [h1]; rfl
  · exact h1
theorem IMap.new (w : World) (k : IntKind) : IMap (w.alloc (.map #[] 0)) w.heap.size k [] := ⟨#[], 0, heap_alloc_new w _, rfl⟩

theorem find_now (x : Int) : ∀ (es : List MapEntry) (m : List (Int × Value)) (i : Nat), es.map (fun e => (e.key, e.val)) = m.map (fun p => (Value.int k p.1, p.2)) →
    Instr.findNow (.int k) (.int k x) es i = some ((m.findIdx? fun p => p.1 == x).map fun j => (i + j, mapGet m x (.tuple #[])))
  | [], [], i, _ => rfl
  | [], _ :: _, _, h => by cases h
  | _ :: _, [], _, h => by cases h
  | e :: es, p :: m, i, h => by
    simp only [List.map_cons, List.cons.injEq, Prod.mk.injEq] at h
    obtain ⟨⟨hk, hv⟩, hr⟩ := h
    unfold Instr.findNow
    rw [hk]
    simp only [Instr.sameNow, if_true]
    by_cases hx : x = p.1
    · subst hx
      simp [List.findIdx?_cons, mapGet, hv]
    · have hx' : (x == p.1) = false := by simpa using hx
      have hx2 : (p.1 == x) = false := by simpa using fun h => hx h.symm
      rw [hx']
      simp only [find_now x es m (i + 1) hr, List.findIdx?_cons, hx2, Bool.false_eq_true, if_false, Option.map_map, mapGet, List.find?_cons]
      congr 2
      funext j
      simp only [Function.comp, Prod.mk.injEq, and_true]
      omega
theorem run_checkKey {b : Bool} {kt : TypeId} {n : Nat} {x : Int} (hk : P.underlying kt = some (.int k)) : (Instr.checkKey b (n + 1) kt (.int k x)).run P w = .ok () w := by
  simp [Instr.checkKey, run_underlying hk]
theorem run_findKey {kt : TypeId} {x : Int} {es : Array MapEntry} (hk : P.underlying kt = some (.int k)) (h : es.toList.map (fun e => (e.key, e.val)) = m.map (fun p => (Value.int k p.1, p.2))) :
    (Instr.findKey kt (.int k x) es.toList).run P w = .ok ((m.findIdx? fun p => p.1 == x).map fun j => (j, mapGet m x (.tuple #[]))) w := by
  simp only [Instr.findKey, Sem.run_bind, run_underlying hk, Result.andThen_ok, find_now x es.toList m 0 h]
  simp
theorem run_getObj_map {es : Array MapEntry} {c : Nat} (h : w.heap[b]? = some (.map es c)) : (getObj b).run P w = .ok (.map es c) w := by
  simp [getObj, Sem.run, h]
theorem findIdx_none {x : Int} (h : m.findIdx? (fun p => p.1 == x) = none) : mapHas m x = false := by
  rw [List.findIdx?_eq_none_iff] at h
  unfold mapHas
  rw [List.any_eq_false]
  exact fun p hp => by simpa using h p hp
theorem findIdx_some {x : Int} {j : Nat} (h : m.findIdx? (fun p => p.1 == x) = some j) : mapHas m x = true := by
  rw [List.findIdx?_eq_some_iff_getElem] at h
  obtain ⟨hj, hp, _⟩ := h
  unfold mapHas
  rw [List.any_eq_true]
  exact ⟨m[j], List.getElem_mem _, hp⟩
theorem mapGet_none {x : Int} {z : Value} (h : m.findIdx? (fun p => p.1 == x) = none) : mapGet m x z = z := by
  have := findIdx_none h
  unfold mapHas at this
  unfold mapGet
  have hn : m.find? (fun p => p.1 == x) = none := by
    rw [List.find?_eq_none]; rw [List.any_eq_false] at this; exact this
  rw [hn]; rfl
theorem mapGet_some {x : Int} {j : Nat} {z : Value} (h : m.findIdx? (fun p => p.1 == x) = some j) : mapGet m x (.tuple #[]) = mapGet m x z := by
  have := findIdx_some h
  unfold mapHas at this
  unfold mapGet
  cases hf : m.find? (fun p => p.1 == x) with
  | none => rw [List.find?_eq_none] at hf; rw [List.any_eq_true] at this; obtain ⟨p, hp, hx⟩ := this; exact absurd hx (hf p hp)
  | some p => rfl

/-- 'v, ok := m[x]' -/
theorem run_lookup_ok {t kt e : TypeId} {x : Int} {z : Value} (h : IMap w b k m) (ht : P.underlying t = some (.map kt e)) (hk : P.underlying kt = some (.int k)) (hz : (P.info? e).bind (·.zero) = some z) :
    (Instr.lookup t (.map (some b)) (.int k x) true).run P w = .ok (.tuple #[mapGet m x z, .bool (mapHas m x)]) w := by
  obtain ⟨es, c, hb, he⟩ := h
  have hzr : (zeroValue e).run P w = .ok z w := by
    cases hi : P.info? e with
    | none => rw [hi] at hz; cases hz
    | some i => rw [hi] at hz; simp [zeroValue, typeInfo, hi, show i.zero = some z from hz]
  unfold Instr.lookup
  simp only [Sem.run_bind, run_underlying ht, Result.andThen_ok, run_getObj_map hb, Sem.run_pure, run_checkKey (b := es.isEmpty) (n := 9999) hk, run_findKey hk he]
  cases hf : m.findIdx? (fun p => p.1 == x) with
  | none => simp [hzr, findIdx_none hf, mapGet_none hf, Result.andThen]
  | some j => simp [findIdx_some hf, mapGet_some (z := z) hf]
/-- 'm[x]' -/
theorem run_lookup {t kt e : TypeId} {x : Int} {z : Value} (h : IMap w b k m) (ht : P.underlying t = some (.map kt e)) (hk : P.underlying kt = some (.int k)) (hz : (P.info? e).bind (·.zero) = some z) :
    (Instr.lookup t (.map (some b)) (.int k x) false).run P w = .ok (mapGet m x z) w := by
  obtain ⟨es, c, hb, he⟩ := h
  have hzr : (zeroValue e).run P w = .ok z w := by
    cases hi : P.info? e with
    | none => rw [hi] at hz; cases hz
    | some i => rw [hi] at hz; simp [zeroValue, typeInfo, hi, show i.zero = some z from hz]
  unfold Instr.lookup
  simp only [Sem.run_bind, run_underlying ht, Result.andThen_ok, run_getObj_map hb, Sem.run_pure, run_checkKey (b := es.isEmpty) (n := 9999) hk, run_findKey hk he]
  cases hf : m.findIdx? (fun p => p.1 == x) with
  | none => simp [hzr, mapGet_none hf]
  | some j => simp [mapGet_some (z := z) hf]

def World.setObj (w : World) (b : Nat) (o : Obj) : World := { w with heap := w.heap.setIfInBounds b o }
theorem run_setObj_map {es : Array MapEntry} {c : Nat} {o : Obj} (h : w.heap[b]? = some (.map es c)) : (setObj b o).run P w = .ok () (World.setObj w b o) := by
  simp [Go.setObj, Sem.run, h, World.setObj]
theorem setObj_only (w : World) (b : Nat) (o : Obj) : Only [b] w (World.setObj w b o) :=
  ⟨rfl, rfl, rfl, by simp [World.setObj], fun k hk hs => by
    have : b ≠ k := fun e => hs (by simp [e])
    simp [World.setObj, Array.getElem?_setIfInBounds_ne this]⟩
theorem setObj_heap {o : Obj} (h : b < w.heap.size) : (World.setObj w b o).heap[b]? = some o := by simp [World.setObj, h]

theorem mapPut_push {x : Int} {v : Value} : ∀ (m : List (Int × Value)), m.findIdx? (fun p => p.1 == x) = none → mapPut m x v = m ++ [(x, v)]
  | [], _ => rfl
  | p :: m, h => by
    rw [List.findIdx?_cons] at h
    unfold mapPut
    cases hp : p.1 == x with
    | true => rw [hp] at h; simp at h
    | false =>
      rw [hp] at h
      simp only [Bool.false_eq_true, if_false, Option.map_eq_none_iff] at h
      simp [mapPut_push m h]
theorem mapPut_set {x : Int} {v : Value} : ∀ (m : List (Int × Value)) (j : Nat), m.findIdx? (fun p => p.1 == x) = some j → mapPut m x v = m.set j (x, v)
  | [], _, h => by cases h
  | p :: m, j, h => by
    rw [List.findIdx?_cons] at h
    unfold mapPut
    cases hp : p.1 == x with
    | true =>
      rw [hp] at h
      simp only [if_true, Option.some.injEq] at h
      subst h; simp
    | false =>
      rw [hp] at h
      simp only [Bool.false_eq_true, if_false, Option.map_eq_some_iff] at h
      obtain ⟨i, hi, rfl⟩ := h
      simp [mapPut_set m i hi]
theorem key_at {es : Array MapEntry} {x : Int} {j : Nat} (h : es.toList.map (fun e => (e.key, e.val)) = m.map (fun p => (Value.int k p.1, p.2))) (hf : m.findIdx? (fun p => p.1 == x) = some j) :
    ∃ hj : j < es.size, es[j].key = .int k x := by
  rw [List.findIdx?_eq_some_iff_getElem] at hf
  obtain ⟨hj, hp, _⟩ := hf
  have hl : es.toList.length = m.length := by have := congrArg List.length h; simpa using this
  have hj' : j < es.size := by rw [Array.length_toList] at hl; omega
  refine ⟨hj', ?_⟩
  have h2 := congrArg (fun l => l[j]?) h
  simp only [List.getElem?_map, Array.getElem?_toList, Array.getElem?_eq_getElem hj', List.getElem?_eq_getElem hj, Option.map_some, Option.some.injEq, Prod.mk.injEq] at h2
  rw [h2.1]
  have : m[j].1 = x := by simpa using hp
  rw [this]

/-- 'm[x] = v' -/
theorem run_mapUpdate {t kt e : TypeId} {x : Int} {v : Value} (h : IMap w b k m) (ht : P.underlying t = some (.map kt e)) (hk : P.underlying kt = some (.int k)) :
    ∃ w', (Instr.mapUpdate t (.map (some b)) (.int k x) v).run P w = .ok () w' ∧ IMap w' b k (mapPut m x v) ∧ Only [b] w w' := by
  have hlt := h.lt
  obtain ⟨es, c, hb, he⟩ := h
  unfold Instr.mapUpdate
  simp only [Sem.run_bind, run_underlying ht, Result.andThen_ok, run_getObj_map hb, run_checkKey (b := false) (n := 9999) hk, run_findKey hk he]
  cases hf : m.findIdx? (fun p => p.1 == x) with
  | none =>
    simp only [Option.map_none, run_setObj_map hb]
    exact ⟨_, rfl, ⟨_, _, setObj_heap hlt, by simp [he, mapPut_push m hf]⟩, setObj_only _ _ _⟩
  | some j =>
    obtain ⟨hj, hkey⟩ := key_at he hf
    have hkr : (Instr.keyThatStays (((es[j]?).map (·.key)).getD (.int k x)) (.int k x)).run P w = .ok (.int k x) w := by
      rw [Array.getElem?_eq_getElem hj]
      simp only [Option.map_some, Option.getD_some, hkey]
      simp [Instr.keyThatStays, Instr.sameBits]
    simp only [Option.map_some, Sem.run_bind, hkr, Result.andThen_ok, run_setObj_map hb]
    refine ⟨_, rfl, ⟨_, _, setObj_heap hlt, ?_⟩, setObj_only _ _ _⟩
    rw [mapPut_set m j hf, List.map_set, ← he]
    apply List.ext_getElem?
    intro i
    simp only [List.getElem?_map, Array.getElem?_toList, Array.getElem?_modify, List.getElem?_set]
    by_cases hij : j = i
    · subst hij
      simp [hj]
    · simp [hij]
theorem mapDel_none {x : Int} (hf : m.findIdx? (fun p => p.1 == x) = none) : mapDel m x = m := by
  unfold mapDel
  rw [List.eraseP_of_forall_not]
  intro p hp
  rw [List.findIdx?_eq_none_iff] at hf
  simpa using hf p hp
theorem mapDel_some {x : Int} {j : Nat} (hf : m.findIdx? (fun p => p.1 == x) = some j) : mapDel m x = m.eraseIdx j := by
  unfold mapDel
  rw [List.eraseP_eq_eraseIdx, hf]
/-- 'delete(m, x)' -/
theorem run_delete {t kt e ty : TypeId} {x : Int} (h : IMap w b k m) (ht : P.underlying t = some (.map kt e)) (hk : P.underlying kt = some (.int k)) :
    ∃ w', (Builtin.delete_ #[t, kt] ty #[.map (some b), .int k x]).run P w = .ok (.tuple #[]) w' ∧ IMap w' b k (mapDel m x) ∧ Only [b] w w' := by
  have hlt := h.lt
  obtain ⟨es, c, hb, he⟩ := h
  unfold Builtin.delete_
  simp only [List.getElem?_toArray, List.getElem?_cons_zero, List.getElem?_cons_succ, Sem.run_bind, run_underlying ht, Result.andThen_ok, run_getObj_map hb, run_checkKey (b := es.isEmpty) (n := 9999) hk, run_findKey hk he]
  cases hf : m.findIdx? (fun p => p.1 == x) with
  | none =>
    simp only [Option.map_none, Sem.run_bind, run_setObj_map hb, Result.andThen_ok, Sem.run_pure]
    exact ⟨_, rfl, ⟨_, _, setObj_heap hlt, by rw [mapDel_none hf]; exact he⟩, setObj_only _ _ _⟩
  | some j =>
    obtain ⟨hj, hkey⟩ := key_at he hf
    simp only [Option.map_some, Sem.run_bind, run_setObj_map hb, Result.andThen_ok, Sem.run_pure]
    refine ⟨_, rfl, ⟨_, _, setObj_heap hlt, ?_⟩, setObj_only _ _ _⟩
    rw [mapDel_some hf]
    have em : ∀ {α β : Type} (f : α → β) (l : List α) (i : Nat), (l.eraseIdx i).map f = (l.map f).eraseIdx i := fun f l => by
      induction l with
      | nil => intro i; rfl
      | cons x l ih => intro i; cases i <;> simp [*]
    simp only [Array.eraseIdxIfInBounds, hj, dif_pos, Array.toList_eraseIdx]
    rw [em, he, em]
/-- 'clear(m)' -/
theorem run_clear {t kt e ty : TypeId} (h : IMap w b k m) (ht : P.underlying t = some (.map kt e)) :
    ∃ w', (Builtin.clear_ #[t] ty #[.map (some b)]).run P w = .ok (.tuple #[]) w' ∧ IMap w' b k [] ∧ Only [b] w w' := by
  have hlt := h.lt
  obtain ⟨es, c, hb, he⟩ := h
  unfold Builtin.clear_
  simp only [List.getElem?_toArray, List.getElem?_cons_zero, Sem.run_bind, run_underlying ht, Result.andThen_ok, run_getObj_map hb, Sem.run_pure, run_setObj_map hb]
  exact ⟨_, rfl, ⟨_, _, setObj_heap hlt, rfl⟩, setObj_only _ _ _⟩
end

/-! ### For the walk -/
section
variable {P : Program} {w : World} {ops : Array Oper} {rest : List Oper} {o : Oper} {a : Act} {Q : Exit → Act → World → Prop} {b : Nat} {k : IntKind} {m : List (Int × Value)}
theorem wpList_lookup_ok (hg : o.guard = none) (mo x : Operand) (t : TypeId) (hop : o.op = Op.lookup t mo x true) (kt e : TypeId) (z : Value) (ht : P.underlying t = some (.map kt e)) (hk : P.underlying kt = some (.int k)) (hz : (P.info? e).bind (·.zero) = some z)
    (hm : a.eval mo = .map (some b)) (h : IMap w b k m) {y : Int} (hx : a.eval x = .int k y)
    (hK : wpList P ops Q rest (a.put o.dst (.tuple #[mapGet m y z, .bool (mapHas m y)])) w) : wpList P ops Q (o :: rest) a w := by
  refine wpList_plain hg fun K' hK' => ?_
  unfold Oper.wp
  simp [execOp, hop, hm, hx, run_lookup_ok (x := y) h ht hk hz, Result.andThen]
  exact hK' _ _ hK
theorem wpList_mapUpdate (hg : o.guard = none) (mo x v : Operand) (t : TypeId) (hop : o.op = Op.mapUpdate t mo x v) (kt e : TypeId) (ht : P.underlying t = some (.map kt e)) (hk : P.underlying kt = some (.int k))
    (hm : a.eval mo = .map (some b)) (h : IMap w b k m) {y : Int} (hx : a.eval x = .int k y) {u : Value} (hv : a.eval v = u)
    (hK : ∀ w', IMap w' b k (mapPut m y u) → Only [b] w w' → wpList P ops Q rest (a.put o.dst undef) w') : wpList P ops Q (o :: rest) a w := by
  refine wpList_plain hg fun K' hK' => ?_
  obtain ⟨w', hrun, r1, r2⟩ := run_mapUpdate (x := y) (v := u) h ht hk
  unfold Oper.wp
  simp [execOp, hop, hm, hx, hv, hrun, Result.andThen]
  exact hK' _ _ (hK w' r1 r2)
theorem wpList_delete (hg : o.guard = none) (mo x : Operand) (t kt : TypeId) (hop : o.op = Op.call { callee := Callee.builtin Builtin.delete, args := #[mo, x], argTypes := #[t, kt] }) (e : TypeId) (ht : P.underlying t = some (.map kt e)) (hk : P.underlying kt = some (.int k))
    (hm : a.eval mo = .map (some b)) (h : IMap w b k m) {y : Int} (hx : a.eval x = .int k y)
    (hK : ∀ w', IMap w' b k (mapDel m y) → Only [b] w w' → wpList P ops Q rest (a.put o.dst (.tuple #[])) w') : wpList P ops Q (o :: rest) a w := by
  refine wpList_plain hg fun K' hK' => ?_
  obtain ⟨w', hrun, r1, r2⟩ := run_delete (x := y) (ty := o.type) h ht hk
  unfold Oper.wp
  simp [execOp, hop, resolve, invoke, builtin, hm, hx, hrun, Result.andThen]
  exact hK' _ _ (hK w' r1 r2)
theorem wpList_clear (hg : o.guard = none) (mo : Operand) (t : TypeId) (hop : o.op = Op.call { callee := Callee.builtin Builtin.clear, args := #[mo], argTypes := #[t] }) (kt e : TypeId) (ht : P.underlying t = some (.map kt e))
    (hm : a.eval mo = .map (some b)) (h : IMap w b k m)
    (hK : ∀ w', IMap w' b k [] → Only [b] w w' → wpList P ops Q rest (a.put o.dst (.tuple #[])) w') : wpList P ops Q (o :: rest) a w := by
  refine wpList_plain hg fun K' hK' => ?_
  obtain ⟨w', hrun, r1, r2⟩ := run_clear (ty := o.type) h ht
  unfold Oper.wp
  simp [execOp, hop, resolve, invoke, builtin, hm, hrun, Result.andThen]
  exact hK' _ _ (hK w' r1 r2)
end
end Go.Fl
