/-
  Arguments opened: a slice of structs whose fields are integers of any kinds, told by its length and its numbers.
-/
import Derived.Test.YtjnhplgdbdneiaaArgs
set_option linter.unusedSimpArgs false
set_option linter.unusedVariables false
namespace Go.Fl
open Go.RowKit Go.ChangeShapes Go.WideShapes Go.Deep

/-- A slice of records of integers of the kinds ks. -/
def RecsK (w : World) (ks : List IntKind) (v : Value) (n : Nat) (f : Nat → Nat → Int) : Prop :=
  ∃ a cap, v = .slice a n cap ∧ n ≤ cap ∧ cap ≤ maxLen ∧ (0 < n → ∃ g off, a = some ⟨g, off, none⟩ ∧ g < w.heap.size ∧ ∀ i j kd, i < n → ks[j]? = some kd → w.cell? ⟨g, off + (i * ks.length + j), none⟩ = some (.int kd (f i j)) ∧ (Lit.int kd (f i j)).wf = true)
section
variable {w w' : World} {ks : List IntKind} {v : Value} {n : Nat} {f : Nat → Nat → Int}
theorem RecsK.only (h : RecsK w ks v n f) (ho : Only [] w w') : RecsK w' ks v n f := by
  obtain ⟨a, cap, rfl, h1, h2, h3⟩ := h
  refine ⟨a, cap, rfl, h1, h2, fun hn => ?_⟩
  obtain ⟨g, off, rfl, hg, hh⟩ := h3 hn
  exact ⟨g, off, rfl, Nat.lt_of_lt_of_le hg ho.size, fun i j kd hi hj => ⟨(ho.cell (p := ⟨g, off + (i * ks.length + j), none⟩) hg (by simp)).trans (hh i j kd hi hj).1, (hh i j kd hi hj).2⟩⟩
theorem RecsK.shape (h : RecsK w ks v n f) : ∃ a cap, v = .slice a n cap ∧ n ≤ cap ∧ cap ≤ maxLen := by
  obtain ⟨a, cap, rfl, h1, h2, _⟩ := h
  exact ⟨a, cap, rfl, h1, h2⟩
theorem RecsK.at_ (h : RecsK w ks v n f) {i : Nat} (hi : i < n) : ∃ g off cap, v = .slice (some ⟨g, off, none⟩) n cap ∧ n ≤ cap ∧ ∀ j kd, ks[j]? = some kd → w.cell? ⟨g, off + (i * ks.length + j), none⟩ = some (.int kd (f i j)) ∧ (Lit.int kd (f i j)).wf = true := by
  obtain ⟨a, cap, rfl, h1, h2, h3⟩ := h
  obtain ⟨g, off, rfl, _, hh⟩ := h3 (by omega)
  exact ⟨g, off, cap, rfl, h1, fun j kd hj => hh i j kd hi hj⟩
end
section
variable {H : Type} {enc : TypeId × Value → H} {P : Program} {w : World}
/-- Each cell of such a value is an integer of its kind. -/
def IntCellsK (enc : TypeId × Value → H) (P : Program) (w : World) (e : TypeId) (ks : List IntKind) : Prop := ∀ fuel cs x, DataW.trod enc P w 0 (fun _ => true) true fuel e cs = some x → ∀ (j : Nat) (kd : IntKind), ks[j]? = some kd → ∃ y, cs[j]? = some (Value.int kd y) ∧ (Lit.int kd y).wf = true
/-- Its fields' kinds, by one closed check. -/
def kindsB (P : Program) : List Field → List IntKind → Bool
  | [], [] => true
  | f :: fs, k :: ks => (match P.underlying f.type with | some (.int k') => decide (k' = k) | _ => false) && kindsB P fs ks
  | _, _ => false
theorem kindsB_at {P : Program} : ∀ {fs : List Field} {ks : List IntKind}, kindsB P fs ks = true → ∀ (j : Nat) (kd : IntKind), ks[j]? = some kd → ∃ f, fs[j]? = some f ∧ P.underlying f.type = some (.int kd)
  | [], [], _, j, kd, h => by simp at h
  | [], _ :: _, h, _, _, _ => by simp [kindsB] at h
  | _ :: _, [], h, _, _, _ => by simp [kindsB] at h
  | f :: fs, k :: ks, h, j, kd, hj => by
    simp only [kindsB, Bool.and_eq_true] at h
    cases j with
    | zero =>
      have e : k = kd := by simpa using hj
      subst e
      refine ⟨f, rfl, ?_⟩
      have h1 := h.1
      split at h1
      · rename_i k' hu
        have e2 := of_decide_eq_true h1
        subst e2
        exact hu
      · cases h1
    | succ j => exact kindsB_at h.2 j kd (by simpa using hj)
theorem intCellsK_fields {e : TypeId} {fs : Array Field} {ks : List IntKind} (he : P.underlying e = some (.struct fs)) (hf : oneCellFields P fs = true) (hk : kindsB P fs.toList ks = true) : IntCellsK enc P w e ks := fun fuel cs x h j kd hj => by
  obtain ⟨xs, n, _, _, hlen, hxl, hat⟩ := DataW.trod_struct he h
  obtain ⟨f, hfj, hu⟩ := kindsB_at hk j kd hj
  have hj' : fs[j]? = some f := by simpa using hfj
  obtain ⟨h1, h2⟩ := hone_of hf j _ hj'
  have h3 := hat j _ hj'
  rw [h1, h2] at h3
  have hjs : j < fs.size := (Array.getElem?_eq_some_iff.1 hj').1
  have hx : xs[j]? = some (xs[j]'(by omega)) := List.getElem?_eq_getElem (by omega)
  obtain ⟨y, hy, _, hwf⟩ := DataW.trod_int hu (h3.trans hx)
  refine ⟨y, ?_, hwf⟩
  have : (List.take 1 (List.drop j cs))[0]? = some (.int kd y) := by rw [hy]; rfl
  simpa using this
theorem open_recsK {r : Reach} {b0 : Nat} {t e : TypeId} {ks : List IntKind} {v : Value} {d : DataW H} {ps : List MemPlace} (ht : P.underlying t = some (.slice e)) (hk : P.cellsOf e = ks.length) (hk0 : 0 < ks.length) (he : IntCellsK enc P w e ks)
    (hval : Value.okWide P w r b0 t v) (h : DataW.Trod enc P w 0 (fun _ => true) true t v d ps) : ∃ n f, RecsK w ks v n f := by
  obtain ⟨a, len, cap, rfl⟩ := okWide_slice ht hval
  obtain ⟨fuel, h⟩ := h
  rcases open_slice ht h with ⟨h0, _⟩ | ⟨a', len', cap', m, n, D, Pl, hcs, hb, hl, hm, hmm, hx, hi⟩
  · simp [Value.cells] at h0
    obtain ⟨rfl, rfl, rfl⟩ := h0
    exact ⟨0, fun _ _ => 0, none, 0, rfl, by simp, by simp, fun h => by omega⟩
  · simp [Value.cells] at hcs
    obtain ⟨rfl, rfl, rfl⟩ := hcs
    simp at hmm
    have hall : ∀ i j kd, i < len → ks[j]? = some kd → ∃ y, w.cell? ((a'.add (i * ks.length)).add j) = some (.int kd y) ∧ (Lit.int kd y).wf = true := fun i j kd hi1 hj => by
      obtain ⟨cs', hc, hd⟩ := hi i (by omega)
      rw [hk] at hc
      obtain ⟨_, _, hat⟩ := World.cells?_some hc
      obtain ⟨y, hy, hwf⟩ := he _ _ _ hd j kd hj
      exact ⟨y, (hat j (List.getElem?_eq_some_iff.1 hj).1).trans hy, hwf⟩
    refine ⟨len, fun i j => if hh : i < len ∧ j < ks.length then (hall i j ks[j] hh.1 (List.getElem?_eq_getElem hh.2)).choose else 0, _, _, rfl, hl, hm, fun hn => ?_⟩
    obtain ⟨y, hy, _⟩ := hall 0 0 ks[0] hn (List.getElem?_eq_getElem hk0)
    have hsp : a'.spot = none := by
      have : w.cell? a' = some (.int ks[0] y) := by simpa [Addr.add] using hy
      unfold World.cell? at this
      split at this
      · split at this
        · cases this
        · rename_i h; simpa using h
      · cases this
    obtain ⟨g, off, sp⟩ := a'
    simp only at hsp
    subst hsp
    have hgl : g < w.heap.size := by have := cell_lt hy; rw [Addr.add_lit, Addr.add_lit] at this; exact this
    refine ⟨g, off, rfl, hgl, fun i j kd hi1 hj => ?_⟩
    obtain ⟨hjl, hje⟩ := List.getElem?_eq_some_iff.1 hj
    have hs := (hall i j ks[j] hi1 (List.getElem?_eq_getElem hjl)).choose_spec
    simp only [hi1, hjl, and_self, dif_pos]
    rw [← hje]
    refine ⟨Eq.trans ?_ hs.1, hs.2⟩
    rw [Addr.add_lit, Addr.add_lit, Nat.add_assoc]
end
end Go.Fl
