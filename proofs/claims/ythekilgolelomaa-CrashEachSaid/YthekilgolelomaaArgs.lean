/-
  Arguments opened: a slice of integers, or of structs whose fields are integers, told by its length and its numbers.
-/
import Derived.Test.YthekilgolelomaaLaw
set_option linter.unusedSimpArgs false
set_option linter.unusedVariables false
namespace Go.Fl
open Go.RowKit Go.ChangeShapes Go.WideShapes Go.Deep

/-- A slice of records of k integers each. -/
def Recs (w : World) (k : Nat) (v : Value) (n : Nat) (f : Nat → Nat → Int) : Prop :=
  ∃ a cap, v = .slice a n cap ∧ n ≤ cap ∧ cap ≤ maxLen ∧ (0 < n → ∃ g off, a = some ⟨g, off, none⟩ ∧ ∀ i j, i < n → j < k → w.cell? ⟨g, off + (i * k + j), none⟩ = some (.int .i64 (f i j)))
theorem cell_lt {w : World} {a : Addr} {v : Value} (h : w.cell? a = some v) : a.block < w.heap.size := by
  by_cases hn : a.block < w.heap.size
  · exact hn
  · have h0 : w.heap[a.block]? = none := Array.getElem?_eq_none (by omega)
    simp [World.cell?, h0] at h
section
variable {w w' : World} {k : Nat} {v : Value} {n : Nat} {f : Nat → Nat → Int}
theorem Recs.only (h : Recs w k v n f) (ho : Only [] w w') : Recs w' k v n f := by
  obtain ⟨a, cap, rfl, h1, h2, h3⟩ := h
  refine ⟨a, cap, rfl, h1, h2, fun hn => ?_⟩
  obtain ⟨g, off, rfl, hh⟩ := h3 hn
  refine ⟨g, off, rfl, fun i j hi hj => ?_⟩
  have h1 := hh i j hi hj
  exact (ho.cell (p := ⟨g, off + (i * k + j), none⟩) (cell_lt h1) (by simp)).trans h1
theorem Recs.shape (h : Recs w k v n f) : ∃ a cap, v = .slice a n cap ∧ n ≤ cap ∧ cap ≤ maxLen := by
  obtain ⟨a, cap, rfl, h1, h2, _⟩ := h
  exact ⟨a, cap, rfl, h1, h2⟩
theorem Recs.at_ (h : Recs w k v n f) {i : Nat} (hi : i < n) : ∃ g off cap, v = .slice (some ⟨g, off, none⟩) n cap ∧ n ≤ cap ∧ ∀ j, j < k → w.cell? ⟨g, off + (i * k + j), none⟩ = some (.int .i64 (f i j)) := by
  obtain ⟨a, cap, rfl, h1, h2, h3⟩ := h
  obtain ⟨g, off, rfl, hh⟩ := h3 (by omega)
  exact ⟨g, off, cap, rfl, h1, fun j hj => hh i j hi hj⟩
end

section
variable {H : Type} {enc : TypeId × Value → H} {P : Program} {w : World}
/-- Each cell of such a value is an integer. -/
def IntCells (enc : TypeId × Value → H) (P : Program) (w : World) (e : TypeId) (k : Nat) : Prop := ∀ fuel cs x, DataW.trod enc P w 0 (fun _ => true) true fuel e cs = some x → ∀ j, j < k → ∃ y, cs[j]? = some (.int .i64 y)
theorem intCells_one {e : TypeId} (he : P.underlying e = some (.int .i64)) : IntCells enc P w e 1 := fun fuel cs x h j hj => by
  obtain ⟨n, rfl, _, _⟩ := DataW.trod_int he h
  exact ⟨n, by cases j with | zero => rfl | succ j => omega⟩
theorem intCells_struct {e : TypeId} {fs : Array Field} (he : P.underlying e = some (.struct fs)) (hf : oneCellFields P fs = true) (hi : ∀ (j : Nat) (f : Field), fs[j]? = some f → P.underlying f.type = some (.int .i64)) : IntCells enc P w e fs.size := fun fuel cs x h j hj => by
  obtain ⟨xs, n, _, _, hlen, hxl, hat⟩ := DataW.trod_struct he h
  have hj' : fs[j]? = some fs[j] := Array.getElem?_eq_getElem hj
  obtain ⟨h1, h2⟩ := hone_of hf j _ hj'
  have h3 := hat j _ hj'
  rw [h1, h2] at h3
  have hx : xs[j]? = some (xs[j]'(by omega)) := List.getElem?_eq_getElem (by omega)
  obtain ⟨y, hy, _, _⟩ := DataW.trod_int (hi j _ hj') (h3.trans hx)
  refine ⟨y, ?_⟩
  have : (List.take 1 (List.drop j cs))[0]? = some (.int .i64 y) := by rw [hy]; rfl
  simpa using this
theorem open_recs {r : Reach} {b0 : Nat} {t e : TypeId} {k : Nat} {v : Value} {d : DataW H} {ps : List MemPlace} (ht : P.underlying t = some (.slice e)) (hk : P.cellsOf e = k) (hk0 : 0 < k) (he : IntCells enc P w e k)
    (hval : Value.okWide P w r b0 t v) (h : DataW.Trod enc P w 0 (fun _ => true) true t v d ps) : ∃ n f, Recs w k v n f := by
  obtain ⟨a, len, cap, rfl⟩ := okWide_slice ht hval
  obtain ⟨fuel, h⟩ := h
  rcases open_slice ht h with ⟨h0, _⟩ | ⟨a', len', cap', m, n, D, Pl, hcs, hb, hl, hm, hmm, hx, hi⟩
  · simp [Value.cells] at h0
    obtain ⟨rfl, rfl, rfl⟩ := h0
    exact ⟨0, fun _ _ => 0, none, 0, rfl, by simp, by simp, fun h => by omega⟩
  · simp [Value.cells] at hcs
    obtain ⟨rfl, rfl, rfl⟩ := hcs
    simp at hmm
    have hall : ∀ i j, i < len → j < k → ∃ y, w.cell? ((a'.add (i * k)).add j) = some (.int .i64 y) := fun i j hi1 hj => by
      obtain ⟨cs', hc, hd⟩ := hi i (by omega)
      rw [hk] at hc
      obtain ⟨_, _, hat⟩ := World.cells?_some hc
      obtain ⟨y, hy⟩ := he _ _ _ hd j hj
      exact ⟨y, (hat j hj).trans hy⟩
    refine ⟨len, fun i j => if hh : i < len ∧ j < k then (hall i j hh.1 hh.2).choose else 0, _, _, rfl, hl, hm, fun hn => ?_⟩
    obtain ⟨y, hy⟩ := hall 0 0 hn hk0
    have hsp : a'.spot = none := by
      have : w.cell? a' = some (.int .i64 y) := by simpa [Addr.add] using hy
      unfold World.cell? at this
      split at this
      · split at this
        · cases this
        · rename_i h; simpa using h
      · cases this
    obtain ⟨g, off, sp⟩ := a'
    simp only at hsp
    subst hsp
    refine ⟨g, off, rfl, fun i j hi1 hj => ?_⟩
    have hs := (hall i j hi1 hj).choose_spec
    simp only [hi1, hj, and_self, dif_pos]
    refine Eq.trans ?_ hs
    rw [Addr.add_lit, Addr.add_lit, Nat.add_assoc]
end
end Go.Fl
