/-
  Tasks as an argument: a slice of slices of acts, opened.
-/
import Derived.Test.YtompelilflckkaaSv
import Derived.Test.YtompelilflckkaaArgs2
import Derived.Test.YtompelilflckkaaArgs3
namespace Go.Proofs.Ytompelilflckkaa
open Go.RowKit Go.Fl Go.ChangeShapes Go.WideShapes Go.Deep

section
variable {H : Type} {enc : TypeId × Value → H} {P : Program} {w : World}
theorem spot_none {a : Addr} {v : Value} (h : w.cell? a = some v) : a.spot = none := by
  unfold World.cell? at h
  split at h
  · split at h
    · cases h
    · rename_i k; simpa using k
  · cases h
theorem open_acts {t e : TypeId} {fuel : Nat} {cs : List Value} {x : DataW H × List MemPlace} (ht : P.underlying t = some (.slice e)) (hk : P.cellsOf e = 4) (he : IntCells enc P w e 4)
    (h : DataW.trod enc P w 0 (fun _ => true) true fuel t cs = some x) : ∃ v l, cs = [v] ∧ ActsV w.heap.size w v l := by
  rcases open_slice ht h with ⟨h0, _⟩ | ⟨a', len, cap, m, n, D, Pl, hcs, hb, hl, hm, hmm, hx, hi⟩
  · exact ⟨_, [], h0, none, 0, rfl, by simp, by simp, fun h => absurd h (Nat.not_lt_zero _)⟩
  · simp at hmm
    have hall : ∀ i, i < len → ∃ y : A, w.cell? ((a'.add (i * 4)).add 0) = some (iv y.kind) ∧ w.cell? ((a'.add (i * 4)).add 1) = some (iv y.a) ∧ w.cell? ((a'.add (i * 4)).add 2) = some (iv y.b) ∧ w.cell? ((a'.add (i * 4)).add 3) = some (iv y.n) := fun i hi1 => by
      obtain ⟨cs', hc, hd⟩ := hi i (by omega)
      rw [hk] at hc
      obtain ⟨_, _, hat⟩ := World.cells?_some hc
      obtain ⟨y0, h0⟩ := he _ _ _ hd 0 (by omega)
      obtain ⟨y1, h1⟩ := he _ _ _ hd 1 (by omega)
      obtain ⟨y2, h2⟩ := he _ _ _ hd 2 (by omega)
      obtain ⟨y3, h3⟩ := he _ _ _ hd 3 (by omega)
      exact ⟨⟨y0, y1, y2, y3⟩, (hat 0 (by omega)).trans h0, (hat 1 (by omega)).trans h1, (hat 2 (by omega)).trans h2, (hat 3 (by omega)).trans h3⟩
    obtain ⟨l, hll, hp⟩ := list_of (p := fun i (y : A) => w.cell? ((a'.add (i * 4)).add 0) = some (iv y.kind) ∧ w.cell? ((a'.add (i * 4)).add 1) = some (iv y.a) ∧ w.cell? ((a'.add (i * 4)).add 2) = some (iv y.b) ∧ w.cell? ((a'.add (i * 4)).add 3) = some (iv y.n)) len hall
    subst hll
    refine ⟨_, l, hcs, _, _, rfl, hl, hm, fun hn => ?_⟩
    have hsp : a'.spot = none := spot_none (hp 0 hn).1
    have hlt := cell_lt (hp 0 hn).1
    obtain ⟨g, off, sp⟩ := a'
    simp only at hsp
    subst hsp
    refine ⟨g, off, rfl, hlt, hlt, fun i hi1 => ?_⟩
    obtain ⟨h0, h1, h2, h3⟩ := hp i hi1
    rw [Addr.add_lit, Addr.add_lit] at h0 h1 h2 h3
    exact ⟨h0, h1, h2, h3⟩
theorem open_tasks {r : Reach} {b0 : Nat} {t e f : TypeId} {v : Value} {d : DataW H} {ps : List MemPlace} (ht : P.underlying t = some (.slice e)) (hk1 : P.cellsOf e = 1) (hte : P.underlying e = some (.slice f)) (hk : P.cellsOf f = 4) (he : IntCells enc P w f 4)
    (hval : Value.okWide P w r b0 t v) (h : DataW.Trod enc P w 0 (fun _ => true) true t v d ps) : ∃ l, TasksV w.heap.size w v l := by
  obtain ⟨a, len, cap, rfl⟩ := okWide_slice ht hval
  obtain ⟨fuel, h⟩ := h
  rcases open_slice ht h with ⟨h0, _⟩ | ⟨a', len', cap', m, n, D, Pl, hcs, hb, hl, hm, hmm, hx, hi⟩
  · simp [Value.cells] at h0
    obtain ⟨rfl, rfl, rfl⟩ := h0
    exact ⟨[], none, 0, rfl, by simp, by simp, fun h => absurd h (Nat.not_lt_zero _)⟩
  · simp [Value.cells] at hcs
    obtain ⟨rfl, rfl, rfl⟩ := hcs
    simp at hmm
    have hall : ∀ i, i < len → ∃ y : List A, ∃ v, w.cell? (a'.add i) = some v ∧ ActsV w.heap.size w v y := fun i hi1 => by
      obtain ⟨cs', hc, hd⟩ := hi i (by omega)
      rw [hk1, Nat.mul_one] at hc
      obtain ⟨v, l, rfl, hl⟩ := open_acts hte hk he hd
      have := (World.cells?_some hc).2.2 0 (by omega)
      exact ⟨l, v, by simpa [Addr.add] using this, hl⟩
    obtain ⟨l, hll, hp⟩ := list_of (p := fun i (y : List A) => ∃ v, w.cell? (a'.add i) = some v ∧ ActsV w.heap.size w v y) len hall
    subst hll
    refine ⟨l, _, _, rfl, hl, hm, fun hn => ?_⟩
    obtain ⟨v0, h0, _⟩ := hp 0 hn
    have hsp : a'.spot = none := spot_none h0
    have hlt := cell_lt h0
    obtain ⟨g, off, sp⟩ := a'
    simp only at hsp
    subst hsp
    refine ⟨g, off, rfl, hlt, hlt, fun i hi1 => ?_⟩
    obtain ⟨v, h1, h2⟩ := hp i hi1
    rw [Addr.add_lit] at h1
    exact ⟨v, h1, h2⟩
end
end Go.Proofs.Ytompelilflckkaa
