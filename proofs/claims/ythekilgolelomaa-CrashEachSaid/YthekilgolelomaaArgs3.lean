/-
  Arguments opened: a slice of texts or of integers, told by the list of what it holds.
-/
import Derived.Test.YthekilgolelomaaArgs
import Derived.Test.YthekilgolelomaaBase
set_option linter.unusedSimpArgs false
set_option linter.unusedVariables false
namespace Go.Fl
open Go.RowKit Go.ChangeShapes Go.WideShapes Go.Deep

/-- A slice, each of whose elements fills one cell. -/
def Row {α : Type} (f : α → Value) (w : World) (v : Value) (l : List α) : Prop :=
  ∃ a cap, v = .slice a l.length cap ∧ l.length ≤ cap ∧ cap ≤ maxLen ∧ (0 < l.length → ∃ g off, a = some ⟨g, off, none⟩ ∧ g < w.heap.size ∧ ∀ i (h : i < l.length), w.cell? ⟨g, off + i, none⟩ = some (f l[i]))
section
variable {α : Type} {f : α → Value} {w w' : World} {v : Value} {l : List α}
theorem Row.only (h : Row f w v l) (ho : Only [] w w') : Row f w' v l := by
  obtain ⟨a, cap, rfl, h1, h2, h3⟩ := h
  refine ⟨a, cap, rfl, h1, h2, fun hn => ?_⟩
  obtain ⟨g, off, rfl, hg, hh⟩ := h3 hn
  exact ⟨g, off, rfl, Nat.lt_of_lt_of_le hg ho.size, fun i hi => (ho.cell (p := ⟨g, off + i, none⟩) hg (by simp)).trans (hh i hi)⟩
end
section
variable {H : Type} {enc : TypeId × Value → H} {P : Program} {w : World}
theorem list_of {α : Type} {p : Nat → α → Prop} : ∀ n, (∀ i, i < n → ∃ a, p i a) → ∃ l : List α, l.length = n ∧ ∀ i (h : i < l.length), p i l[i]
  | 0, _ => ⟨[], rfl, fun i h => by simp at h⟩
  | n + 1, h => by
    obtain ⟨l, hl, hp⟩ := list_of n fun i hi => h i (by omega)
    obtain ⟨a, ha⟩ := h n (by omega)
    refine ⟨l ++ [a], by simp [hl], fun i hi => ?_⟩
    by_cases h1 : i < l.length
    · rw [List.getElem_append_left h1]; exact hp i h1
    · have : i = l.length := by simp at hi; omega
      subst this
      simp [hl, ha]
theorem open_row {α : Type} {f : α → Value} {p : α → Prop} {r : Reach} {b0 : Nat} {t e : TypeId} {v : Value} {d : DataW H} {ps : List MemPlace} (ht : P.underlying t = some (.slice e)) (hk : P.cellsOf e = 1)
    (he : ∀ fuel cs x, DataW.trod enc P w 0 (fun _ => true) true fuel e cs = some x → ∃ y, cs = [f y] ∧ p y)
    (hval : Value.okWide P w r b0 t v) (h : DataW.Trod enc P w 0 (fun _ => true) true t v d ps) : ∃ l, Row f w v l ∧ ∀ i (h : i < l.length), p l[i] := by
  obtain ⟨a, len, cap, rfl⟩ := okWide_slice ht hval
  obtain ⟨fuel, h⟩ := h
  rcases open_slice ht h with ⟨h0, _⟩ | ⟨a', len', cap', m, n, D, Pl, hcs, hb, hl, hm, hmm, hx, hi⟩
  · simp [Value.cells] at h0
    obtain ⟨rfl, rfl, rfl⟩ := h0
    exact ⟨[], ⟨none, 0, rfl, by simp, by simp, fun h => by simp at h⟩, fun i h => by simp at h⟩
  · simp [Value.cells] at hcs
    obtain ⟨rfl, rfl, rfl⟩ := hcs
    simp at hmm
    have hall : ∀ i, i < len → ∃ y, w.cell? (a'.add i) = some (f y) ∧ p y := fun i hi1 => by
      obtain ⟨cs', hc, hd⟩ := hi i (by omega)
      rw [hk, Nat.mul_one] at hc
      obtain ⟨y, rfl, hy⟩ := he _ _ _ hd
      have := (World.cells?_some hc).2.2 0 (by omega)
      exact ⟨y, by simpa [Addr.add] using this, hy⟩
    obtain ⟨l, hll, hp⟩ := list_of (p := fun i y => w.cell? (a'.add i) = some (f y) ∧ p y) len hall
    subst hll
    refine ⟨l, ⟨_, _, rfl, hl, hm, fun hn => ?_⟩, fun i hi => (hp i hi).2⟩
    have h0 := (hp 0 hn).1
    have hsp : a'.spot = none := by
      have : w.cell? a' = some (f l[0]) := by simpa [Addr.add] using h0
      unfold World.cell? at this
      split at this
      · split at this
        · cases this
        · rename_i h; simpa using h
      · cases this
    obtain ⟨g, off, sp⟩ := a'
    simp only at hsp
    subst hsp
    refine ⟨g, off, rfl, cell_lt h0, fun i hi1 => ?_⟩
    refine Eq.trans ?_ (hp i hi1).1
    rw [Addr.add_lit]
theorem open_texts {r : Reach} {b0 : Nat} {t e : TypeId} {v : Value} {d : DataW H} {ps : List MemPlace} (ht : P.underlying t = some (.slice e)) (hk : P.cellsOf e = 1) (he : P.underlying e = some .string)
    (hval : Value.okWide P w r b0 t v) (h : DataW.Trod enc P w 0 (fun _ => true) true t v d ps) : ∃ l : List (List UInt8), Row (fun s => .string ⟨s.toArray⟩) w v l ∧ ∀ i (h : i < l.length), l[i].length ≤ maxLen :=
  open_row (f := fun s : List UInt8 => .string ⟨s.toArray⟩) (p := fun s => s.length ≤ maxLen) ht hk (fun fuel cs x hd => by
    obtain ⟨s, h1, _, h3⟩ := DataW.trod_string he hd
    exact ⟨s.data.toList, h1, h3⟩) hval h
theorem open_i64s {r : Reach} {b0 : Nat} {t e : TypeId} {v : Value} {d : DataW H} {ps : List MemPlace} (ht : P.underlying t = some (.slice e)) (hk : P.cellsOf e = 1) (he : P.underlying e = some (.int .i64))
    (hval : Value.okWide P w r b0 t v) (h : DataW.Trod enc P w 0 (fun _ => true) true t v d ps) : ∃ l : List Int, Row (fun s => .int .i64 s) w v l ∧ ∀ i (h : i < l.length), (Lit.int .i64 l[i]).wf = true :=
  open_row (f := fun s : Int => .int .i64 s) (p := fun s => (Lit.int .i64 s).wf = true) ht hk (fun fuel cs x hd => by
    obtain ⟨n, h1, _, h3⟩ := DataW.trod_int he hd
    exact ⟨n, h1, h3⟩) hval h
end
/-- append of such a slice. -/
theorem run_append_row {α : Type} {f : α → Value} {P : Program} {w : World} (t ty e : TypeId) (i : TypeInfo) (z : Value) (bytes : Nat) (ht : P.underlying t = some (.slice e)) (hi : P.info? e = some i) (hz : i.zero = some z)
    (hsize : i.size = 1) (hby : i.bytes = bytes) (hzs : z.cells.size = 1)
    {v : Value} {n : Nat} {xs : List Value} (hown : Sl w e 1 v n xs) {vx : Value} {l : List α} (hx : Row f w vx l) (h1 : ∀ u, (f u).oneCell' = true)
    (h63 : n + l.length ≤ maxLen) (hbytes : (n + l.length) * bytes ≤ 140737488355328) :
    ∃ v' w', (Builtin.append_ #[t, t] ty #[v, vx]).run P w = .ok v' w' ∧ Sl w' e 1 v' (n + l.length) (xs ++ l.map f) ∧ w.grownBy w' v.ownBlock ∧
      (v'.ownBlock = v.ownBlock ∨ v'.ownBlock = some w.heap.size) := by
  obtain ⟨ax, cx, rfl, hc, hm, hcell⟩ := hx
  rcases Nat.eq_zero_or_pos l.length with h0 | h0
  · obtain rfl : l = [] := List.length_eq_zero_iff.1 h0
    cases ax with
    | none =>
      refine ⟨v, w, ?_, by simpa using hown, ⟨rfl, rfl, rfl, Nat.le_refl _, fun _ _ _ => rfl⟩, .inl rfl⟩
      obtain ⟨a, c, rfl, hc, ha⟩ := hown.shape
      cases a <;> simp [Builtin.append_, run_underlying ht, sizeOf, typeInfo, hi, Builtin.lenOf, hc, Builtin.firstCells, storeCells]
    | some ad => exact run_append_sl t ty e i z 1 bytes ht hi hz hsize hby hzs (by omega) hown ad 0 cx [] rfl (fun j u hu => by simp at hu) (fun u hu => by simp at hu) h63 hbytes
  · obtain ⟨g, off, rfl, hg, hcc⟩ := hcell h0
    exact run_append_sl t ty e i z 1 bytes ht hi hz hsize hby hzs (by omega) hown ⟨g, off, none⟩ l.length cx (l.map f) (by simp) (fun j u hu => by
      rw [List.getElem?_map] at hu
      by_cases hj : j < l.length
      · rw [List.getElem?_eq_getElem hj] at hu
        injection hu with hu
        rw [Addr.add_lit, hcc j hj, hu]
      · rw [List.getElem?_eq_none (by omega)] at hu; cases hu) (fun u hu => by obtain ⟨y, _, rfl⟩ := List.mem_map.1 hu; exact h1 y) h63 hbytes
theorem wpList_append_row {α : Type} {f : α → Value} {P : Program} {w : World} {ops : Array Oper} {rest : List Oper} {o : Oper} {a : Act} {Q : Exit → Act → World → Prop} (hgd : o.guard = none) (s x : Operand) (t : TypeId)
    (ho : o.op = .call { callee := .builtin .append, args := #[s, x], argTypes := #[t, t] })
    (e : TypeId) (i : TypeInfo) (z : Value) (bytes : Nat) (ht : P.underlying t = some (.slice e)) (hi : P.info? e = some i) (hz : i.zero = some z)
    (hsize : i.size = 1) (hby : i.bytes = bytes) (hzs : z.cells.size = 1)
    {v : Value} {n : Nat} {xs : List Value} (hs : a.eval s = v) (hown : Sl w e 1 v n xs)
    {vx : Value} {l : List α} (hx : a.eval x = vx) (hxs : Row f w vx l) (h1 : ∀ u, (f u).oneCell' = true)
    (h63 : n + l.length ≤ maxLen) (hbytes : (n + l.length) * bytes ≤ 140737488355328)
    (h : ∀ v' w', Sl w' e 1 v' (n + l.length) (xs ++ l.map f) → w.grownBy w' v.ownBlock → (v'.ownBlock = v.ownBlock ∨ v'.ownBlock = some w.heap.size) → wpList P ops Q rest (a.put o.dst v') w') : wpList P ops Q (o :: rest) a w := by
  refine wpList_plain hgd fun K hK => ?_
  obtain ⟨v', w', hr, h2, h3, h4⟩ := run_append_row (P := P) t o.type e i z bytes ht hi hz hsize hby hzs hown hxs h1 h63 hbytes
  unfold Oper.wp execOp
  simp only [ho, resolve, invoke, builtin, Sem.run_bind, Sem.run_pure, Result.andThen_ok, List.map_toArray, List.map_cons, List.map_nil, hs, hx, hr]
  exact hK _ _ (h v' w' h2 h3 h4)
end Go.Fl
