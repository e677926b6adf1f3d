/-
  Are two runs the same? The law's Eq, of one run told twice.
-/
import Derived.Test.YtompelilflckkaaXc
namespace Go.Proofs.Ytompelilflckkaa
open Go.RowKit Go.Fl

theorem turns_at2 : ∀ (l : List (Nat × Nat)) (i : Nat) (h : i < l.length), (turns l)[i * 2 + 1]? = some (iv (l[i].2 : Int))
  | [], i, h => absurd h (Nat.not_lt_zero _)
  | p :: l, 0, _ => rfl
  | p :: l, i + 1, h => by
    have := turns_at2 l i (by simpa using h)
    simp only [List.getElem_cons_succ]
    rw [show (i + 1) * 2 + 1 = i * 2 + 1 + 1 + 1 by omega]
    exact this
theorem endsV_len (s : S) (k : Nat) : (endsV s k).length = k * 2 := by
  induction k with
  | zero => rfl
  | succ k ih => rw [endsV_succ, List.length_append, ih]; simp; omega
theorem ends_at2 (s : S) (k i : Nat) (h : i < k) : (endsV s k)[i * 2 + 1]? = some (iv (s.ts i).num) := by
  induction k with
  | zero => omega
  | succ k ih =>
    have hl := endsV_len s k
    rw [endsV_succ]
    by_cases e : i < k
    · rw [List.getElem?_append_left (by omega)]; exact ih e
    · obtain rfl : i = k := by omega
      rw [List.getElem?_append_right (by omega), hl, show i * 2 + 1 - i * 2 = 1 by omega]; rfl
/-- What Eq reads of one run. -/
structure RD (w : World) (s : S) (tr rg en qs : Value) : Prop where
  tr : ∃ a c, tr = .slice a s.trace.length c ∧ s.trace.length ≤ maxLen ∧ (0 < s.trace.length → ∃ g o, a = some ⟨g, o, none⟩ ∧ g < w.heap.size ∧ ∀ i (h : i < s.trace.length), w.cell? ⟨g, o + i * 2, none⟩ = some (iv (s.trace[i].1 : Int)) ∧ w.cell? ⟨g, o + i * 2 + 1, none⟩ = some (iv (s.trace[i].2 : Int)))
  rg : Row intv w rg ((List.range 8).map s.regs)
  en : ∃ a c, en = .slice a s.n c ∧ s.n ≤ maxLen ∧ (0 < s.n → ∃ g o, a = some ⟨g, o, none⟩ ∧ g < w.heap.size ∧ ∀ i, i < s.n → w.cell? ⟨g, o + i * 2, none⟩ = some (iv (how s (s.ts i))) ∧ w.cell? ⟨g, o + i * 2 + 1, none⟩ = some (iv (s.ts i).num))
  qs : ∃ g o c, qs = .slice (some ⟨g, o, none⟩) 4 c ∧ g < w.heap.size ∧ ∀ j, j < 4 → ∃ v, w.cell? ⟨g, o + j, none⟩ = some v ∧ Row intv w v (s.queues j)
theorem sl_max {w : World} {e size n : Nat} {v : Value} {xs : List Value} (h : Sl w e size v n xs) : n ≤ maxLen := by
  by_cases h0 : 0 < n
  · obtain ⟨_, _, _, _, _, hc, hm, _, _⟩ := h.form h0
    omega
  · unfold maxLen; omega
theorem RunV.rd {B : Nat} {w : World} {s : S} {v : Value} (h : RunV B w s v) : ∃ tr rg en qs, v = .agg #[iv s.trace.length, tr, rg, en, qs] ∧ RD w s tr rg en qs := by
  obtain ⟨tr, rg, en, qs, vs, hv, htr, hrg, hen, hqs, hq, _, _, _, _⟩ := h.it
  refine ⟨tr, rg, en, qs, hv, ?_, row_sl (by rw [List.map_map]; exact hrg) (by simp), ?_, ?_⟩
  · obtain ⟨a, c, ha, _, _⟩ := htr.shape
    refine ⟨a, c, ha, sl_max htr, fun h0 => ?_⟩
    obtain ⟨g, o, c', hr, hg, _, _, hc, _⟩ := htr.form h0
    rw [ha] at hr
    injection hr with h1 _ _
    exact ⟨g, o, h1, hg, fun i hi => ⟨(hc (i * 2) (by omega)).trans (turns_at _ i hi), by rw [Nat.add_assoc]; exact (hc (i * 2 + 1) (by omega)).trans (turns_at2 _ i hi)⟩⟩
  · obtain ⟨a, c, ha, _, _⟩ := hen.shape
    refine ⟨a, c, ha, sl_max hen, fun h0 => ?_⟩
    obtain ⟨g, o, c', hr, hg, _, _, hc, _⟩ := hen.form h0
    rw [ha] at hr
    injection hr with h1 _ _
    exact ⟨g, o, h1, hg, fun i hi => ⟨(hc (i * 2) (by omega)).trans (ends_at s _ i hi), by rw [Nat.add_assoc]; exact (hc (i * 2 + 1) (by omega)).trans (ends_at2 s _ i hi)⟩⟩
  · obtain ⟨g, o, c, hr, hg, _, _, hc, _⟩ := hqs.form (by omega)
    have hl := hqs.len
    refine ⟨g, o, c, hr, hg, fun j hj => ⟨vs[j]'(by omega), (hc j (by omega)).trans (List.getElem?_eq_getElem _), row_sl (hq j (by omega)).1 rfl⟩⟩
theorem RD.only {w w' : World} {s : S} {tr rg en qs : Value} (h : RD w s tr rg en qs) (ho : Only [] w w') : RD w' s tr rg en qs := by
  refine ⟨?_, h.rg.only ho, ?_, ?_⟩
  · obtain ⟨a, c, h1, h2, h3⟩ := h.tr
    refine ⟨a, c, h1, h2, fun h0 => ?_⟩
    obtain ⟨g, o, h4, hg, h5⟩ := h3 h0
    exact ⟨g, o, h4, Nat.lt_of_lt_of_le hg ho.size, fun i hi => ⟨(ho.cell (p := ⟨g, _, none⟩) hg (by simp)).trans (h5 i hi).1, (ho.cell (p := ⟨g, _, none⟩) hg (by simp)).trans (h5 i hi).2⟩⟩
  · obtain ⟨a, c, h1, h2, h3⟩ := h.en
    refine ⟨a, c, h1, h2, fun h0 => ?_⟩
    obtain ⟨g, o, h4, hg, h5⟩ := h3 h0
    exact ⟨g, o, h4, Nat.lt_of_lt_of_le hg ho.size, fun i hi => ⟨(ho.cell (p := ⟨g, _, none⟩) hg (by simp)).trans (h5 i hi).1, (ho.cell (p := ⟨g, _, none⟩) hg (by simp)).trans (h5 i hi).2⟩⟩
  · obtain ⟨g, o, c, h1, hg, h2⟩ := h.qs
    refine ⟨g, o, c, h1, Nat.lt_of_lt_of_le hg ho.size, fun j hj => ?_⟩
    obtain ⟨v, h3, h4⟩ := h2 j hj
    exact ⟨v, (ho.cell (p := ⟨g, _, none⟩) hg (by simp)).trans h3, h4.only ho⟩
end Go.Proofs.Ytompelilflckkaa
