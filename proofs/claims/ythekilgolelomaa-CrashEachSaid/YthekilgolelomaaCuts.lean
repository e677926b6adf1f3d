/-
  append onto a slice that has room; clear of a slice's tail; the front of a slice.
-/
import Derived.Test.YthekilgolelomaaBase
set_option linter.unusedSimpArgs false
set_option linter.unusedVariables false
namespace Go.Fl
open Go.RowKit

section
variable {P : Program} {w : World} {e : TypeId} {size : Nat} {n : Nat} {xs : List Value}

/-- The front of a slice, its room kept or cut. -/
theorem Sl.front {a : Option Addr} {cap cap2 k : Nat} (h : Sl w e size (.slice a n cap) n xs) (hk : k ≤ n) (h1 : k ≤ cap2) (h2 : cap2 ≤ cap) : Sl w e size (.slice a k cap2) k (xs.take (k * size)) := by
  have hm := Nat.mul_le_mul_right size hk
  refine ⟨by rw [List.length_take, h.1]; omega, ?_⟩
  rcases h.2 with ⟨hv, rfl⟩ | ⟨g, off, cap', cur, hv, hh, hc, hmx, hs, ht⟩
  · injection hv with e1 _ e3
    subst e1; subst e3
    obtain rfl : k = 0 := by omega
    obtain rfl : cap2 = 0 := by omega
    exact .inl ⟨rfl, rfl⟩
  · injection hv with e1 _ e3
    subst e1; subst e3
    have h3 := Nat.mul_le_mul_right size h2
    exact .inr ⟨g, off, cap2, cur, rfl, hh, h1, by omega, by omega, by rw [← ht, List.take_take]; congr 1; omega⟩

theorem run_append_room_sl (t ty : TypeId) (i : TypeInfo) (ht : P.underlying t = some (.slice e)) (hi : P.info? e = some i) (hsize : i.size = size)
    {g off cap : Nat} (hown : Sl w e size (.slice (some ⟨g, off, none⟩) n cap) n xs) {vx : Value} {m : Nat} {news : List Value} (hx : Sl w e size vx m news) (h1 : ∀ u ∈ news, u.oneCell' = true) (hroom : n + m ≤ cap) :
    ∃ w', (Builtin.append_ #[t, t] ty #[.slice (some ⟨g, off, none⟩) n cap, vx]).run P w = .ok (.slice (some ⟨g, off, none⟩) (n + m) cap) w' ∧ Sl w' e size (.slice (some ⟨g, off, none⟩) (n + m) cap) (n + m) (xs ++ news) ∧ Only [g] w w' := by
  rcases hown.2 with ⟨hv, _⟩ | ⟨g', off', cap', cur, hv, hh, hc, hm, hs, htake⟩
  · cases hv
  injection hv with e1 _ e3
  simp only [Option.some.injEq, Addr.mk.injEq, and_true] at e1
  obtain ⟨rfl, rfl⟩ := e1
  subst e3
  rcases hx.2 with ⟨rfl, rfl⟩ | ⟨gx, offx, cx, curx, rfl, hhx, _⟩
  · have hnw : news = [] := List.eq_nil_of_length_eq_zero (by simpa using hx.1)
    subst hnw
    refine ⟨w, ?_, by simpa using hown, Only.refl _ _⟩
    simp [Builtin.append_, run_underlying ht, sizeOf, typeInfo, hi, Builtin.lenOf, hc, Builtin.firstCells, storeCells]
  · have hmul : n * size + m * size ≤ cap * size := by rw [← Nat.add_mul]; exact Nat.mul_le_mul_right _ hroom
    have hl := hx.1
    subst hsize
    have hr := run_append_room_off (P := P) (w := w) t ty e i ht hi g off n cap cur hh ⟨gx, offx, none⟩ m cx news hl (Sl.cells_ hx) h1 hroom (by omega)
    refine ⟨_, hr, ⟨?_, .inr ⟨g, off, cap, _, rfl, setRow_heap w g cur _ e _ hh, hroom, hm, ?_, ?_⟩⟩, ⟨rfl, rfl, rfl, by simp, fun k _ hk => setRow_other w g k _ (fun e => hk (by simp [e]))⟩⟩
    · rw [List.length_append, hown.1, hl, Nat.add_mul]
    · simp only [List.size_toArray, List.length_append, List.length_take, List.length_drop, Array.length_toList]
      omega
    · have hlen : (cur.toList.take (off + n * i.size)).length = off + n * i.size := by rw [List.length_take, Array.length_toList]; omega
      simp only [List.append_assoc]
      rw [List.drop_append_of_le_length (by omega), List.drop_take]
      have e1 : off + n * i.size - off = n * i.size := by omega
      rw [e1, htake]
      rw [← List.append_assoc]
      have hx : (xs ++ news).length = (n + m) * i.size := by rw [List.length_append, hown.1, hl, Nat.add_mul]
      rw [← hx]
      exact List.take_left
theorem wpList_append_room {ops : Array Oper} {rest : List Oper} {o : Oper} {a : Act} {Q : Exit → Act → World → Prop} (hgd : o.guard = none) (s x : Operand) (t : TypeId)
    (ho : o.op = .call { callee := .builtin .append, args := #[s, x], argTypes := #[t, t] })
    (e : TypeId) (i : TypeInfo) (size : Nat) (ht : P.underlying t = some (.slice e)) (hi : P.info? e = some i) (hsize : i.size = size)
    {g off cap n : Nat} {xs : List Value} (hs : a.eval s = .slice (some ⟨g, off, none⟩) n cap) (hown : Sl w e size (.slice (some ⟨g, off, none⟩) n cap) n xs)
    {vx : Value} {m : Nat} {news : List Value} (hx : a.eval x = vx) (hxs : Sl w e size vx m news) (h1 : ∀ u ∈ news, u.oneCell' = true) (hroom : n + m ≤ cap)
    (h : ∀ w', Sl w' e size (.slice (some ⟨g, off, none⟩) (n + m) cap) (n + m) (xs ++ news) → Only [g] w w' → wpList P ops Q rest (a.put o.dst (.slice (some ⟨g, off, none⟩) (n + m) cap)) w') : wpList P ops Q (o :: rest) a w := by
  refine wpList_plain hgd fun K hK => ?_
  obtain ⟨w', hr, h2, h3⟩ := run_append_room_sl (P := P) t o.type i ht hi hsize hown hxs h1 hroom
  unfold Oper.wp execOp
  simp only [ho, resolve, invoke, builtin, Sem.run_bind, Sem.run_pure, Result.andThen_ok, List.map_toArray, List.map_cons, List.map_nil, hs, hx, hr]
  exact hK _ _ (h w' h2 h3)

/-- 'clear' of what lies behind a slice. -/
theorem run_clear_tail (t ty : TypeId) (i : TypeInfo) (z : Value) (ht : P.underlying t = some (.slice e)) (hi : P.info? e = some i) (hz : i.zero = some z)
    {g off cap m c : Nat} (hown : Sl w e size (.slice (some ⟨g, off, none⟩) n cap) n xs) (zs : List Value) (hzs : (Builtin.zeroCells z.cells (m + 1)).toList = zs) (hzl : zs.length = (m + 1) * size) (h1 : ∀ u ∈ zs, u.oneCell' = true) (hroom : n + (m + 1) ≤ cap) :
    ∃ w', (Builtin.clear_ #[t] ty #[.slice (some ⟨g, off + n * size, none⟩) (m + 1 : Nat) c]).run P w = .ok (.tuple #[]) w' ∧ Sl w' e size (.slice (some ⟨g, off, none⟩) n cap) n xs ∧ Only [g] w w' := by
  rcases hown.2 with ⟨hv, _⟩ | ⟨g', off', cap', cur, hv, hh, hc, hm, hs, htake⟩
  · cases hv
  injection hv with e1 _ e3
  simp only [Option.some.injEq, Addr.mk.injEq, and_true] at e1
  obtain ⟨rfl, rfl⟩ := e1
  subst e3
  have hmul : n * size + (m + 1) * size ≤ cap * size := by rw [← Nat.add_mul]; exact Nat.mul_le_mul_right _ hroom
  have hzv : (zeroValue e).run P w = .ok z w := by simp [zeroValue, typeInfo, hi, hz]
  have hst := run_storeCells_at P g (off + n * size) e zs 0 cur w hh (by rw [hzl]; omega) h1
  simp only [Nat.add_zero] at hst
  refine ⟨w.setRow g (cur.toList.take (off + n * size) ++ zs ++ cur.toList.drop (off + n * size + zs.length)).toArray, ?_, ⟨hown.1, .inr ⟨g, off, cap, _, rfl, setRow_heap w g cur _ e _ hh, hc, hm, ?_, ?_⟩⟩, ⟨rfl, rfl, rfl, by simp, fun k _ hk => setRow_other w g k _ (fun e => hk (by simp [e]))⟩⟩
  · simp only [Builtin.clear_, List.getElem?_toArray, List.getElem?_cons_zero, Sem.run_bind, run_underlying ht, Result.andThen_ok, hzv, hzs, hst, Sem.run_pure]
  · simp only [List.size_toArray, List.length_append, List.length_take, List.length_drop, Array.length_toList, hzl]
    omega
  · have hlen : (cur.toList.take (off + n * size)).length = off + n * size := by rw [List.length_take, Array.length_toList]; omega
    simp only [List.append_assoc]
    rw [List.drop_append_of_le_length (by omega), List.drop_take]
    have e1 : off + n * size - off = n * size := by omega
    rw [e1, htake, ← hown.1]
    exact List.take_left
theorem wpList_clear_tail {ops : Array Oper} {rest : List Oper} {o : Oper} {a : Act} {Q : Exit → Act → World → Prop} (hgd : o.guard = none) (s : Operand) (t : TypeId)
    (ho : o.op = .call { callee := .builtin .clear, args := #[s], argTypes := #[t] }) (e : TypeId) (i : TypeInfo) (z : Value) (size : Nat) (ht : P.underlying t = some (.slice e)) (hi : P.info? e = some i) (hz : i.zero = some z)
    {g off cap n c k : Nat} {xs : List Value} (m : Nat) (hkm : k = m + 1) (hown : Sl w e size (.slice (some ⟨g, off, none⟩) n cap) n xs) (hs : a.eval s = .slice (some ⟨g, off + n * size, none⟩) k c) (zs : List Value) (hzs : (Builtin.zeroCells z.cells (m + 1)).toList = zs) (hzl : zs.length = (m + 1) * size) (h1 : ∀ u ∈ zs, u.oneCell' = true) (hroom : n + (m + 1) ≤ cap)
    (h : ∀ w', Sl w' e size (.slice (some ⟨g, off, none⟩) n cap) n xs → Only [g] w w' → wpList P ops Q rest (a.put o.dst (.tuple #[])) w') : wpList P ops Q (o :: rest) a w := by
  subst hkm
  refine wpList_plain hgd fun K hK => ?_
  obtain ⟨w', hr, h2, h3⟩ := run_clear_tail (P := P) (c := c) t o.type i z ht hi hz hown zs hzs hzl h1 hroom
  unfold Oper.wp execOp
  simp only [ho, resolve, invoke, builtin, Sem.run_bind, Sem.run_pure, Result.andThen_ok, List.map_toArray, List.map_cons, List.map_nil, hs, hr]
  exact hK _ _ (h w' h2 h3)
/-- In a region that is walked operation by operation. -/
theorem step_append_sls {ops : Array Oper} {o : Oper} {a : Act} {K : Act → World → Prop} {Q : Exit → Act → World → Prop} {E : Prop} (hgd : o.guard = none) (s x : Operand) (t : TypeId)
    (ho : o.op = .call { callee := .builtin .append, args := #[s, x], argTypes := #[t, t] })
    (e : TypeId) (i : TypeInfo) (z : Value) (size bytes : Nat) (ht : P.underlying t = some (.slice e)) (hi : P.info? e = some i) (hz : i.zero = some z)
    (hsize : i.size = size) (hby : i.bytes = bytes) (hzs : z.cells.size = size) (hsz : 0 < size)
    {v : Value} {n : Nat} {xs : List Value} (hs : a.eval s = v) (hown : Sl w e size v n xs)
    {vx : Value} {m : Nat} {news : List Value} (hx : a.eval x = vx) (hxs : Sl w e size vx m news) (h1 : ∀ u ∈ news, u.oneCell' = true)
    (h63 : n + m ≤ maxLen) (hbytes : (n + m) * bytes ≤ 140737488355328)
    (h : ∀ v' w', Sl w' e size v' (n + m) (xs ++ news) → w.grownBy w' v.ownBlock → (v'.ownBlock = v.ownBlock ∨ v'.ownBlock = some w.heap.size) → K (a.put o.dst v') w') :
    if Region.wanted o (yielded ops a.tmps) = true then Oper.wp P o a w K Q else E := by
  have hw : Region.wanted o (yielded ops a.tmps) = true := by simp [Region.wanted, hgd]
  rw [if_pos hw]
  obtain ⟨v', w', hr, h2, h3, h4⟩ := run_append_sls (P := P) t o.type e i z size bytes ht hi hz hsize hby hzs hsz hown hxs h1 h63 hbytes
  unfold Oper.wp execOp
  simp only [ho, resolve, invoke, builtin, Sem.run_bind, Sem.run_pure, Result.andThen_ok, List.map_toArray, List.map_cons, List.map_nil, hs, hx, hr]
  exact h v' w' h2 h3 h4
/-- A struct stored into a block known whole. -/
theorem wpList_store_blk {ops : Array Oper} {rest : List Oper} {o : Oper} {a : Act} {Q : Exit → Act → World → Prop} (hgd : o.guard = none) (ty : TypeId) (x y : Operand) (ho : o.op = .store ty x y)
    {g k : Nat} {t : TypeId} {cs : Array Value} (us : List Value) (hx : a.eval x = .pointer (some ⟨g, k, none⟩)) (hy : a.eval y = .agg us.toArray) (hB : Blk w g t cs) (hi : (P.info? ty).map (·.size) = some us.length) (hfit : k + us.length ≤ cs.size) (h1 : ∀ u ∈ us, u.oneCell' = true)
    (h : ∀ w', Blk w' g t (cs.toList.take k ++ us ++ cs.toList.drop (k + us.length)).toArray → Only [g] w w' → wpList P ops Q rest (a.put o.dst undef) w') : wpList P ops Q (o :: rest) a w := by
  refine wpList_plain hgd fun K hK => ?_
  have hst := run_storeCells_at P g k t us 0 cs w hB (by simpa using hfit) h1
  simp only [Nat.add_zero] at hst
  cases hq : P.info? ty with
  | none => simp [hq] at hi
  | some i =>
    have hs : i.size = us.length := by simpa [hq] using hi
    have hsv : (storeVar ty ⟨g, k, none⟩ (.agg us.toArray)).run P w = .ok () (w.setRow g (cs.toList.take k ++ us ++ cs.toList.drop (k + us.length)).toArray) := by
      simp [storeVar, sizeOf, typeInfo, hq, Value.cells, hs, hst]
    unfold Oper.wp execOp
    simp only [ho, hx, hy, Instr.storeAt, Instr.sureAddr, Sem.run_bind, Sem.run_pure, Result.andThen_ok, hsv]
    exact hK _ _ (h _ (setRow_heap w g cs _ t _ hB) ⟨rfl, rfl, rfl, by simp, fun k _ hk => setRow_other w g k _ (fun e => hk (by simp [e]))⟩)
end
end Go.Fl
