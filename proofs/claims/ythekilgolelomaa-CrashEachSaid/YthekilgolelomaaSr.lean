/-
  A slice that is read alone: its cells, whatever else stands or is marked in its block (an argument; bytes of a constant text).
-/
import Derived.Test.YthekilgolelomaaCuts
import Derived.Test.YthekilgolelomaaArgs3
import Derived.Lib.SlBytesConst
set_option linter.unusedSimpArgs false
set_option linter.unusedVariables false
namespace Go.Fl
open Go.RowKit Go.ChangeShapes Go.WideShapes Go.Deep

/-- The slice value v, of n elements of 'size' cells each, reads xs. -/
def Sr (w : World) (size : Nat) (v : Value) (n : Nat) (xs : List Value) : Prop :=
  xs.length = n * size ∧ ∃ a cap, v = .slice a n cap ∧ n ≤ cap ∧ cap ≤ maxLen ∧
    (0 < n → ∃ g off, a = some ⟨g, off, none⟩ ∧ g < w.heap.size ∧ ∀ j u, xs[j]? = some u → w.cell? ⟨g, off + j, none⟩ = some u)
/-- It lies in none of the blocks F. -/
def Off (F : Nat → Prop) (v : Value) (n : Nat) : Prop := 0 < n → ∀ g, v.ownBlock = some g → ¬ F g
section
variable {P : Program} {w w' : World} {e : TypeId} {size : Nat} {v : Value} {n : Nat} {xs : List Value}
theorem Sl.sr (h : Sl w e size v n xs) : Sr w size v n xs := by
  refine ⟨h.1, ?_⟩
  rcases h.2 with ⟨rfl, rfl⟩ | ⟨g, off, cap, cur, rfl, hh, hc, hm, hs, ht⟩
  · exact ⟨none, 0, rfl, Nat.le_refl _, Nat.zero_le _, fun h => absurd h (Nat.lt_irrefl _)⟩
  · refine ⟨_, cap, rfl, hc, hm, fun _ => ⟨g, off, rfl, (Array.getElem?_eq_some_iff.1 hh).1, fun j u hu => ?_⟩⟩
    rw [← Addr.add_lit]
    exact Sl.cells_ h j u hu
theorem Sr.nil (w : World) (size : Nat) : Sr w size (.slice none 0 0) 0 [] := ⟨by simp, none, 0, rfl, Nat.le_refl _, Nat.zero_le _, fun h => absurd h (Nat.lt_irrefl _)⟩
theorem Sr.keep (h : Sr w size v n xs) (hk : 0 < n → ∀ g, v.ownBlock = some g → g < w.heap.size → g < w'.heap.size ∧ w'.heap[g]? = w.heap[g]?) : Sr w' size v n xs := by
  obtain ⟨h1, a, cap, rfl, h2, h3, h4⟩ := h
  refine ⟨h1, a, cap, rfl, h2, h3, fun hn => ?_⟩
  obtain ⟨g, off, rfl, hg, hc⟩ := h4 hn
  obtain ⟨k1, k2⟩ := hk hn g rfl hg
  exact ⟨g, off, rfl, k1, fun j u hu => (World.cell?_of_block (w := w) k2).trans (hc j u hu)⟩
theorem Sr.only {S : List Nat} (h : Sr w size v n xs) (ho : Only S w w') (hS : 0 < n → ∀ g, v.ownBlock = some g → g < w.heap.size → g ∉ S) : Sr w' size v n xs :=
  h.keep fun hn g hg hl => ⟨Nat.lt_of_lt_of_le hl ho.size, ho.block g hl (hS hn g hg hl)⟩
theorem Sr.only0 (h : Sr w size v n xs) (ho : Only [] w w') : Sr w' size v n xs := h.only ho fun _ _ _ _ => by simp
theorem Sr.drew (h : Sr w size v n xs) : Sr w.drew size v n xs := h.only0 (Only.refl _ _).drew
theorem Sr.shape (h : Sr w size v n xs) : ∃ a cap, v = .slice a n cap ∧ n ≤ cap ∧ cap ≤ maxLen := by
  obtain ⟨h1, a, cap, rfl, h2, h3, h4⟩ := h
  exact ⟨a, cap, rfl, h2, h3⟩
theorem Sr.len (h : Sr w size v n xs) : xs.length = n * size := h.1
/-- The front of a slice, its room kept or cut. -/
theorem Sr.front {a : Option Addr} {cap cap2 k : Nat} (h : Sr w size (.slice a n cap) n xs) (hk : k ≤ n) (h1 : k ≤ cap2) (h2 : cap2 ≤ cap) : Sr w size (.slice a k cap2) k (xs.take (k * size)) := by
  have hm := Nat.mul_le_mul_right size hk
  obtain ⟨hl, a', cap', e1, hc, hcm, h4⟩ := h
  injection e1 with e1 _ e2
  subst e1
  subst e2
  refine ⟨by rw [List.length_take, hl]; omega, a, cap2, rfl, h1, by omega, fun hk0 => ?_⟩
  obtain ⟨g, off, rfl, hg, hcc⟩ := h4 (by omega)
  refine ⟨g, off, rfl, hg, fun j u hu => hcc j u ?_⟩
  rw [List.getElem?_take] at hu
  split at hu
  · exact hu
  · cases hu
theorem Sr.form (h : Sr w size v n xs) (hn : 0 < n) : ∃ g off cap, v = .slice (some ⟨g, off, none⟩) n cap ∧ g < w.heap.size ∧ n ≤ cap ∧ cap ≤ maxLen := by
  obtain ⟨h1, a, cap, rfl, h2, h3, h4⟩ := h
  obtain ⟨g, off, rfl, hg, hcc⟩ := h4 hn
  exact ⟨g, off, cap, rfl, hg, h2, h3⟩
theorem Sr.cells_ {g off cap : Nat} (h : Sr w size (.slice (some ⟨g, off, none⟩) n cap) n xs) : ∀ j u, xs[j]? = some u → w.cell? ((⟨g, off, none⟩ : Addr).add j) = some u := by
  intro j u hu
  obtain ⟨h1, a, cap', e, h2, h3, h4⟩ := h
  injection e with e1 _ e3
  subst e1
  rcases Nat.eq_zero_or_pos n with h0 | h0
  · subst h0
    have : xs = [] := List.eq_nil_of_length_eq_zero (by simpa using h1)
    subst this
    cases hu
  · obtain ⟨g', off', e, hg, hcc⟩ := h4 h0
    injection e with e
    injection e with e1 e2
    subst e1
    subst e2
    rw [Addr.add_lit]
    exact hcc j u hu
/-- A fresh row that bears a mark. -/
theorem Sr.marked (w : World) (e : TypeId) (cs : Array Value) (mk : Nat × Nat) {n : Nat} (hs : cs.size = n * size) (hn : n ≤ maxLen) : Sr (w.alloc (.cells cs e mk)) size (.slice (some ⟨w.heap.size, 0, none⟩) n n) n cs.toList :=
  ⟨by simpa using hs, _, n, rfl, Nat.le_refl _, hn, fun _ => ⟨w.heap.size, 0, rfl, by simp, fun j u hu => by
    rw [cell_of_row (w.alloc (.cells cs e mk)) w.heap.size _ cs e mk (heap_alloc_new w _), Nat.zero_add]
    simpa using hu⟩⟩
theorem Off.turn {F G : Nat → Prop} (h : Off F v n) (hG : ∀ g, G g → F g ∨ w.heap.size ≤ g) (hs : Sr w size v n xs) : Off G v n := fun hn g hg hG2 => by
  rcases hG g hG2 with e | e
  · exact h hn g hg e
  · obtain ⟨h1, a, cap, rfl, h2, h3, h4⟩ := hs
    obtain ⟨g', off, rfl, hg', _⟩ := h4 hn
    injection hg with hg
    have : g' = g := hg
    omega
end
/-- append of a slice that is read alone. -/
theorem run_append_slr {P : Program} {w : World} {e : TypeId} {size : Nat} (t ty : TypeId) (i : TypeInfo) (z : Value) (bytes : Nat) (ht : P.underlying t = some (.slice e)) (hi : P.info? e = some i) (hz : i.zero = some z)
    (hsize : i.size = size) (hby : i.bytes = bytes) (hzs : z.cells.size = size) (hsz : 0 < size)
    {v : Value} {n : Nat} {xs : List Value} (hown : Sl w e size v n xs) {vx : Value} {m : Nat} {news : List Value} (hx : Sr w size vx m news) (h1 : ∀ u ∈ news, u.oneCell' = true)
    (h63 : n + m ≤ maxLen) (hbytes : (n + m) * bytes ≤ 140737488355328) :
    ∃ v' w', (Builtin.append_ #[t, t] ty #[v, vx]).run P w = .ok v' w' ∧ Sl w' e size v' (n + m) (xs ++ news) ∧ w.grownBy w' v.ownBlock ∧
      (v'.ownBlock = v.ownBlock ∨ v'.ownBlock = some w.heap.size) := by
  obtain ⟨hl, ax, cx, rfl, hc, hm, hcell⟩ := hx
  rcases Nat.eq_zero_or_pos m with h0 | h0
  · subst h0
    obtain rfl : news = [] := List.eq_nil_of_length_eq_zero (by simpa using hl)
    cases ax with
    | none =>
      refine ⟨v, w, ?_, by simpa using hown, ⟨rfl, rfl, rfl, Nat.le_refl _, fun _ _ _ => rfl⟩, .inl rfl⟩
      obtain ⟨a, c, rfl, hc, ha⟩ := hown.shape
      cases a <;> simp [Builtin.append_, run_underlying ht, sizeOf, typeInfo, hi, Builtin.lenOf, hc, Builtin.firstCells, storeCells]
    | some ad => exact run_append_sl t ty e i z size bytes ht hi hz hsize hby hzs hsz hown ad 0 cx [] (by simp) (fun j u hu => by simp at hu) (fun u hu => by simp at hu) h63 hbytes
  · obtain ⟨g, off, rfl, hg, hcc⟩ := hcell h0
    exact run_append_sl t ty e i z size bytes ht hi hz hsize hby hzs hsz hown ⟨g, off, none⟩ m cx news hl (fun j u hu => by rw [Addr.add_lit]; exact hcc j u hu) h1 h63 hbytes
theorem wpList_append_slr {P : Program} {w : World} {ops : Array Oper} {rest : List Oper} {o : Oper} {a : Act} {Q : Exit → Act → World → Prop} (hgd : o.guard = none) (s x : Operand) (t : TypeId)
    (ho : o.op = .call { callee := .builtin .append, args := #[s, x], argTypes := #[t, t] })
    (e : TypeId) (i : TypeInfo) (z : Value) (size bytes : Nat) (ht : P.underlying t = some (.slice e)) (hi : P.info? e = some i) (hz : i.zero = some z)
    (hsize : i.size = size) (hby : i.bytes = bytes) (hzs : z.cells.size = size) (hsz : 0 < size)
    {v : Value} {n : Nat} {xs : List Value} (hs : a.eval s = v) (hown : Sl w e size v n xs)
    {vx : Value} {m : Nat} {news : List Value} (hx : a.eval x = vx) (hxs : Sr w size vx m news) (h1 : ∀ u ∈ news, u.oneCell' = true)
    (h63 : n + m ≤ maxLen) (hbytes : (n + m) * bytes ≤ 140737488355328)
    (h : ∀ v' w', Sl w' e size v' (n + m) (xs ++ news) → w.grownBy w' v.ownBlock → (v'.ownBlock = v.ownBlock ∨ v'.ownBlock = some w.heap.size) → wpList P ops Q rest (a.put o.dst v') w') : wpList P ops Q (o :: rest) a w := by
  refine wpList_plain hgd fun K hK => ?_
  obtain ⟨v', w', hr, h2, h3, h4⟩ := run_append_slr (P := P) t o.type i z bytes ht hi hz hsize hby hzs hsz hown hxs h1 h63 hbytes
  unfold Oper.wp execOp
  simp only [ho, resolve, invoke, builtin, Sem.run_bind, Sem.run_pure, Result.andThen_ok, List.map_toArray, List.map_cons, List.map_nil, hs, hx, hr]
  exact hK _ _ (h v' w' h2 h3 h4)
/-- A row of elements of one cell is read so. -/
theorem Row.sr {α : Type} {f : α → Value} {w : World} {v : Value} {l : List α} (h : Row f w v l) : Sr w 1 v l.length (l.map f) := by
  obtain ⟨a, cap, e1, e2, e3, e4⟩ := h
  refine ⟨by simp, a, cap, e1, e2, e3, fun hn => ?_⟩
  obtain ⟨g, off, rfl, hg, hc⟩ := e4 hn
  refine ⟨g, off, rfl, hg, fun j u hu => ?_⟩
  rw [List.getElem?_map] at hu
  by_cases hj : j < l.length
  · rw [List.getElem?_eq_getElem hj] at hu
    injection hu with hu
    rw [hc j hj, hu]
  · rw [List.getElem?_eq_none (by omega)] at hu
    cases hu
/-- Bytes as an argument. -/
theorem open_bytesr {H : Type} {enc : TypeId × Value → H} {P : Program} {w : World} {r : Reach} {b0 : Nat} {t e : TypeId} {v : Value} {d : DataW H} {ps : List MemPlace} (ht : P.underlying t = some (.slice e)) (hk : P.cellsOf e = 1) (he : P.underlying e = some (.int .u8))
    (hval : Value.okWide P w r b0 t v) (h : DataW.Trod enc P w 0 (fun _ => true) true t v d ps) : ∃ l : List UInt8, Sr w 1 v l.length (l.map fun c => Value.int .u8 c.toNat) := by
  obtain ⟨l, hr, _⟩ := open_row (f := fun c : UInt8 => Value.int .u8 c.toNat) (p := fun _ => True) ht hk (fun fuel cs x hd => by
    obtain ⟨n, h1, _, h3⟩ := DataW.trod_int he hd
    simp only [Lit.wf, IntKind.min, IntKind.max, IntKind.bits, IntKind.signed] at h3
    simp at h3
    refine ⟨UInt8.ofNat n.toNat, ?_, trivial⟩
    have hlt : n.toNat < 256 := by omega
    rw [h1]
    congr 1
    show Value.int .u8 n = .int .u8 ((UInt8.ofNat n.toNat).toNat : Int)
    rw [UInt8.toNat_ofNat_of_lt' hlt, Int.toNat_of_nonneg h3.1]) hval h
  exact ⟨l, hr.sr⟩
end Go.Fl
