/-
  A map from pointers to pointers, told by the list of its entries: a lookup, a store at a key that is not there.
-/
import Derived.Test.YthekilgolelomaaDir
import Derived.LaidEqlPtr
set_option linter.unusedSimpArgs false
set_option linter.unusedVariables false
namespace Go.Fl
open Go.RowKit

/-- Block b is a map with just the entries m. -/
def PMap (w : World) (b : Nat) (m : List (Nat × Nat)) : Prop := ∃ es clock, w.heap[b]? = some (.map es clock) ∧ es.toList.map (fun e => (e.key, e.val)) = m.map fun p => (fp p.1, fp p.2)
def pGet (m : List (Nat × Nat)) (x : Nat) : Option Nat := (m.find? fun p => p.1 == x).map (·.2)
/-- What a key points to. -/
def Lies (w : World) (x : Nat) : Prop := ∃ t cs, Blk w x t cs
section
variable {P : Program} {w w' : World} {b : Nat} {m : List (Nat × Nat)}
theorem PMap.keep (h : PMap w b m) (hb : w'.heap[b]? = w.heap[b]?) : PMap w' b m := by
  obtain ⟨es, c, h1, h2⟩ := h
  exact ⟨es, c, hb.trans h1, h2⟩
theorem PMap.lt (h : PMap w b m) : b < w.heap.size := by
  obtain ⟨es, c, h1, _⟩ := h
  exact (Array.getElem?_eq_some_iff.1 h1).1
theorem PMap.only {S : List Nat} (h : PMap w b m) (ho : Only S w w') (hS : b ∉ S) : PMap w' b m := h.keep (ho.block b h.lt hS)
theorem PMap.not_cells (h : PMap w b m) {g : Nat} {t : TypeId} {cs : Array Value} (hg : Blk w g t cs) : b ≠ g := by
  rintro rfl
  obtain ⟨es, c, h1, _⟩ := h
  unfold Blk at hg
  rw [h1] at hg
  cases hg
theorem PMap.new (w : World) : PMap (w.alloc (.map #[] 0)) w.heap.size [] := ⟨#[], 0, heap_alloc_new w _, rfl⟩
theorem Lies.only {S : List Nat} {x : Nat} (h : Lies w x) (ho : Only S w w') (hS : x ∉ S) : Lies w' x := by
  obtain ⟨t, cs, hb⟩ := h
  exact ⟨t, cs, hb.only ho hS⟩
theorem run_equal_fp {kt e : TypeId} {j : TypeInfo} (hk : P.underlying kt = some (.pointer e)) (hj : P.info? e = some j) (hsz : j.size ≠ 0) {x y : Nat} (hx : Lies w x) (hy : Lies w y) : (Op.equal kt (fp x) (fp y)).run P w = .ok (x == y) w := by
  obtain ⟨tx, cx, hx⟩ := hx
  obtain ⟨ty, cy, hy⟩ := hy
  by_cases h : x = y
  · subst h
    have : ∀ d : Nat, (Op.equalIn (d + 1) kt (fp x) (fp x)).run P w = .ok true w := fun d => by
      simp [Op.equalIn, run_underlying hk, sizeOf, typeInfo, hj, run_sameAddr_same]
    simp [Op.equal, Op.maxDepth, this 9999]
  · have hne : (⟨x, 0, none⟩ : Addr) ≠ ⟨y, 0, none⟩ := fun e => h (by injection e)
    have : ∀ d : Nat, (Op.equalIn (d + 1) kt (fp x) (fp y)).run P w = .ok false w := fun d => by
      simp [Op.equalIn, run_underlying hk, sizeOf, typeInfo, hj, hsz, run_sameAddr_other w hne hx hy]
    have hb : (x == y) = false := by simpa using h
    simp [Op.equal, Op.maxDepth, this 9999, hb]
theorem run_findAsk {kt e : TypeId} {j : TypeInfo} (hk : P.underlying kt = some (.pointer e)) (hj : P.info? e = some j) (hsz : j.size ≠ 0) {x : Nat} (hx : Lies w x) : ∀ (es : List MapEntry) (m : List (Nat × Nat)) (i : Nat),
    es.map (fun e => (e.key, e.val)) = m.map (fun p => (fp p.1, fp p.2)) → (∀ p ∈ m, Lies w p.1) →
    (Instr.findAsking kt (fp x) es i).run P w = .ok ((m.findIdx? fun p => p.1 == x).map fun j => (i + j, optP (pGet m x))) w
  | [], [], i, _, _ => by simp [Instr.findAsking]
  | [], _ :: _, _, h, _ => by cases h
  | _ :: _, [], _, h, _ => by cases h
  | e :: es, p :: m, i, h, hm => by
    simp only [List.map_cons, List.cons.injEq, Prod.mk.injEq] at h
    obtain ⟨⟨hkey, hv⟩, hr⟩ := h
    have h1 := run_equal_fp (P := P) hk hj hsz hx (hm p (by simp))
    unfold Instr.findAsking
    rw [hkey]
    simp only [Sem.run_bind, h1, Result.andThen_ok]
    by_cases hx2 : x = p.1
    · subst hx2
      simp [List.findIdx?_cons, pGet, hv, optP]
    · have hx' : (x == p.1) = false := by simpa using hx2
      have hx3 : (p.1 == x) = false := by simpa using fun h => hx2 h.symm
      rw [hx']
      simp only [Bool.false_eq_true, if_false]
      rw [run_findAsk hk hj hsz hx es m (i + 1) hr fun q hq => hm q (List.mem_cons_of_mem _ hq)]
      simp only [List.findIdx?_cons, hx3, Bool.false_eq_true, if_false, Option.map_map, pGet, List.find?_cons]
      congr 2
      funext j
      simp only [Function.comp, Prod.mk.injEq, and_true]
      omega
theorem run_findP {kt e : TypeId} {j : TypeInfo} (hk : P.underlying kt = some (.pointer e)) (hj : P.info? e = some j) (hsz : j.size ≠ 0) {x : Nat} (hx : Lies w x) {es : Array MapEntry} (h : es.toList.map (fun e => (e.key, e.val)) = m.map fun p => (fp p.1, fp p.2)) (hm : ∀ p ∈ m, Lies w p.1) :
    (Instr.findKey kt (fp x) es.toList).run P w = .ok ((m.findIdx? fun p => p.1 == x).map fun j => (j, optP (pGet m x))) w := by
  have h1 := run_findAsk (P := P) hk hj hsz hx es.toList m 0 h hm
  unfold Instr.findKey
  simp only [Sem.run_bind, run_underlying hk, Result.andThen_ok]
  cases hes : es.toList with
  | nil =>
    rw [hes] at h
    cases m with
    | nil => simp [Instr.findNow]
    | cons p m => cases h
  | cons y ys =>
    rw [hes] at h h1
    cases m with
    | nil => cases h
    | cons p m =>
      simp only [List.map_cons, List.cons.injEq, Prod.mk.injEq] at h
      have hn : Instr.findNow (.pointer e) (fp x) (y :: ys) 0 = none := by
        unfold Instr.findNow
        rw [h.1.1]
        rfl
      rw [hn]
      simp only [h1]
      simp
theorem run_checkP {b : Bool} {kt e : TypeId} {n : Nat} {x : Nat} (hk : P.underlying kt = some (.pointer e)) : (Instr.checkKey b (n + 1) kt (fp x)).run P w = .ok () w := by
  simp [Instr.checkKey, run_underlying hk]
theorem pIdx_get {x : Nat} {j : Nat} (h : m.findIdx? (fun p => p.1 == x) = some j) : (pGet m x).isSome = true := by
  rw [List.findIdx?_eq_some_iff_getElem] at h
  obtain ⟨hj, hp, _⟩ := h
  unfold pGet
  rw [Option.isSome_map, List.find?_isSome]
  exact ⟨m[j], List.getElem_mem _, hp⟩
theorem pIdx_none {x : Nat} : m.findIdx? (fun p => p.1 == x) = none ↔ pGet m x = none := by
  unfold pGet
  rw [List.findIdx?_eq_none_iff, Option.map_eq_none_iff, List.find?_eq_none]
  constructor
  · intro h p hp
    simp [h p hp]
  · intro h p hp
    have := h p hp
    simpa using this
/-- 'm[x]' -/
theorem PMap.lookup {t kt ke e : TypeId} {j : TypeInfo} (h : PMap w b m) (hm : ∀ p ∈ m, Lies w p.1) {x : Nat} (hx : Lies w x) (ht : P.underlying t = some (.map kt e)) (hk : P.underlying kt = some (.pointer ke)) (hj : P.info? ke = some j) (hsz : j.size ≠ 0) (hz : (P.info? e).bind (·.zero) = some (.pointer none)) :
    (Instr.lookup t (.map (some b)) (fp x) false).run P w = .ok (optP (pGet m x)) w := by
  obtain ⟨es, c, hb, he⟩ := h
  unfold Instr.lookup
  simp only [Sem.run_bind, run_underlying ht, Result.andThen_ok, run_getObj_smap hb, Sem.run_pure, run_checkP (b := es.isEmpty) (n := 9999) hk, run_findP hk hj hsz hx he hm]
  cases hf : m.findIdx? (fun p => p.1 == x) with
  | none => simp [run_zeroOf hz, pIdx_none.1 hf, optP]
  | some j => simp
/-- 'm[x] = y', where x is not there -/
theorem PMap.push {t kt ke e : TypeId} {j : TypeInfo} (h : PMap w b m) (hm : ∀ p ∈ m, Lies w p.1) {x : Nat} (hx : Lies w x) (hn : pGet m x = none) (y : Nat) (ht : P.underlying t = some (.map kt e)) (hk : P.underlying kt = some (.pointer ke)) (hj : P.info? ke = some j) (hsz : j.size ≠ 0) :
    ∃ w', (Instr.mapUpdate t (.map (some b)) (fp x) (fp y)).run P w = .ok () w' ∧ PMap w' b (m ++ [(x, y)]) ∧ Only [b] w w' ∧ w'.heap.size = w.heap.size := by
  have hlt := h.lt
  obtain ⟨es, c, hb, he⟩ := h
  unfold Instr.mapUpdate
  simp only [Sem.run_bind, run_underlying ht, Result.andThen_ok, run_getObj_smap hb, run_checkP (b := false) (n := 9999) hk, run_findP hk hj hsz hx he hm]
  rw [pIdx_none.2 hn]
  simp only [Option.map_none, run_setObj_smap hb]
  refine ⟨_, rfl, ⟨_, _, setObjS_heap hlt, ?_⟩, setObjS_only _ _ _, by simp [World.setObjS]⟩
  simp [he]
theorem pGet_push (m : List (Nat × Nat)) (x y z : Nat) (hn : pGet m x = none) : pGet (m ++ [(x, y)]) z = if z = x then some y else pGet m z := by
  unfold pGet at hn ⊢
  rw [List.find?_append]
  by_cases h : z = x
  · subst h
    rw [if_pos rfl]
    rw [Option.map_eq_none_iff] at hn
    rw [hn]
    simp
  · rw [if_neg h]
    have : (x == z) = false := by simpa using fun e => h e.symm
    simp [this]
end
section
variable {P : Program} {w : World} {b : Nat} {m : List (Nat × Nat)} {ops : Array Oper} {rest : List Oper} {o : Oper} {a : Act} {Q : Exit → Act → World → Prop}
theorem wpList_ppush (hg : o.guard = none) (mo x v : Operand) (t : TypeId) (hop : o.op = Op.mapUpdate t mo x v) (kt ke e : TypeId) {j : TypeInfo} (ht : P.underlying t = some (.map kt e)) (hk : P.underlying kt = some (.pointer ke)) (hj : P.info? ke = some j) (hsz : j.size ≠ 0)
    (hmv : a.eval mo = .map (some b)) {X Y : Nat} (hx : a.eval x = fp X) (hv : a.eval v = fp Y) (h : PMap w b m) (hm : ∀ p ∈ m, Lies w p.1) (hl : Lies w X) (hn : pGet m X = none)
    (k : ∀ w', PMap w' b (m ++ [(X, Y)]) → Only [b] w w' → w'.heap.size = w.heap.size → wpList P ops Q rest (a.put o.dst (.tuple #[])) w') : wpList P ops Q (o :: rest) a w := by
  refine wpList_plain hg fun K hK => ?_
  obtain ⟨w', hr, h1, h2, h3⟩ := h.push (P := P) hm hl hn Y ht hk hj hsz
  unfold Oper.wp execOp
  simp only [hop, hmv, hx, hv, Sem.run_bind, hr, Result.andThen_ok, Sem.run_pure]
  exact hK _ _ (k w' h1 h2 h3)
end
end Go.Fl
