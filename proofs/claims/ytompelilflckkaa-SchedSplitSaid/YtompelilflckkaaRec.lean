/-
  A struct in a block of its own, whose fields are plain values or slices that it owns, each in a block of its own.
-/
import Derived.Test.YtompelilflckkaaBase
namespace Go.Fl
open Go.RowKit

/-- A function turned at one place. -/
def upd {α : Type} (f : Nat → α) (k : Nat) (v : α) : Nat → α := fun j => if j = k then v else f j
section
variable {α : Type} (f : Nat → α) (k j : Nat) (v : α)
theorem upd_same : upd f k v k = v := by simp [upd]
theorem upd_ne (h : j ≠ k) : upd f k v j = f j := by simp [upd, h]
end
/-- N cells. -/
def cellsN (N : Nat) (f : Nat → Value) : Array Value := Array.ofFn (n := N) fun i => f i
theorem cellsN_get {N : Nat} {f : Nat → Value} {i : Nat} (h : i < N) : (cellsN N f)[i]? = some (f i) := by simp [cellsN, h]
theorem cellsN_set {N : Nat} {f : Nat → Value} {i : Nat} (u : Value) : (cellsN N f).setIfInBounds i u = cellsN N (upd f i u) := by
  apply Array.ext_getElem?
  intro j
  rw [Array.getElem?_setIfInBounds]
  by_cases hj : j < N
  · rw [cellsN_get hj, cellsN_get hj]
    by_cases hij : i = j
    · subst hij; rw [if_pos rfl, if_pos (by simpa [cellsN] using hj), upd_same]
    · rw [if_neg hij, upd_ne _ _ _ _ (fun e => hij e.symm)]
  · have h1 : ∀ g : Nat → Value, (cellsN N g)[j]? = none := fun g => Array.getElem?_eq_none (by simp [cellsN]; omega)
    rw [h1, h1]
    by_cases hij : i = j
    · subst hij; rw [if_pos rfl, if_neg (by simpa [cellsN] using hj)]
    · rw [if_neg hij]
/-- What a field holds. -/
inductive FS where
  | val (v : Value)
  | row (e size n : Nat) (xs : List Value)
def FS.ok (w : World) (v : Value) : FS → Prop
  | .val u => v = u
  | .row e size n xs => Sl w e size v n xs
def FS.elem : FS → Option Nat
  | .val _ => none
  | .row e _ _ _ => some e
def FS.own (v : Value) : FS → Option Nat
  | .val _ => none
  | .row _ _ _ _ => v.ownBlock
theorem Sl.ty {w : World} {e : TypeId} {size n : Nat} {v : Value} {xs : List Value} (h : Sl w e size v n xs) {g : Nat} (hg : v.ownBlock = some g) : ∃ cur, Blk w g e cur := by
  rcases h.2 with ⟨rfl, _⟩ | ⟨g', off, cap, cur, rfl, hh, _⟩
  · cases hg
  · simp [Value.ownBlock] at hg
    subst hg
    exact ⟨cur, hh⟩
theorem Blk.ty_eq {w : World} {g : Nat} {t t' : TypeId} {cs cs' : Array Value} (h : Blk w g t cs) (h' : Blk w g t' cs') : t = t' := by
  have := h.symm.trans h'
  simp at this
  exact this.2
/-- The struct. -/
structure Rec (w : World) (base r : Nat) (t : TypeId) (N : Nat) (f : Nat → Value) (sp : Nat → FS) : Prop where
  blk : Blk w r t (cellsN N f)
  ge : base ≤ r
  ok : ∀ k, k < N → (sp k).ok w (f k)
  ty : ∀ k, k < N → (sp k).elem ≠ some t
  own : ∀ k, k < N → ∀ g, (sp k).own (f k) = some g → base ≤ g
  dis : ∀ j k, j < N → k < N → j ≠ k → ∀ g, (sp j).own (f j) = some g → (sp k).own (f k) ≠ some g
section
variable {w w' w1 : World} {base r N : Nat} {t : TypeId} {f : Nat → Value} {sp sp' : Nat → FS}
theorem Rec.cell (h : Rec w base r t N f sp) {k : Nat} (hk : k < N) : w.cell? ⟨r, k, none⟩ = some (f k) := (h.blk.cell k).trans (cellsN_get hk)
theorem Rec.val (h : Rec w base r t N f sp) {k : Nat} (hk : k < N) {u : Value} (hs : sp k = .val u) : f k = u := by
  have := h.ok k hk
  rw [hs] at this
  exact this
theorem Rec.cellv (h : Rec w base r t N f sp) {k : Nat} (hk : k < N) {u : Value} (hs : sp k = .val u) : w.cell? ⟨r, k, none⟩ = some u := (h.cell hk).trans (congrArg some (h.val hk hs))
theorem Rec.row (h : Rec w base r t N f sp) {k : Nat} (hk : k < N) {e size n : Nat} {xs : List Value} (hs : sp k = .row e size n xs) : Sl w e size (f k) n xs := by
  have := h.ok k hk
  rw [hs] at this
  exact this
/-- The block that a field owns, and its type. -/
theorem Rec.ownty (h : Rec w base r t N f sp) {k g : Nat} (hk : k < N) (hg : (sp k).own (f k) = some g) : ∃ e cur, (sp k).elem = some e ∧ Blk w g e cur := by
  have := h.ok k hk
  cases hs : sp k with
  | val u => rw [hs] at hg; cases hg
  | row e size n xs =>
    rw [hs] at hg this
    obtain ⟨cur, hc⟩ := Sl.ty this hg
    exact ⟨e, cur, rfl, hc⟩
theorem Rec.own_ne (h : Rec w base r t N f sp) {k g : Nat} (hk : k < N) (hg : (sp k).own (f k) = some g) : g ≠ r := by
  rintro rfl
  obtain ⟨e, cur, he, hb⟩ := h.ownty hk hg
  exact h.ty k hk (by rw [he, hb.ty_eq h.blk])
theorem Rec.own_lt (h : Rec w base r t N f sp) {k g : Nat} (hk : k < N) (hg : (sp k).own (f k) = some g) : g < w.heap.size := by
  obtain ⟨e, cur, _, hb⟩ := h.ownty hk hg
  exact hb.lt
theorem FS.ok_keep {s : FS} {v : Value} (h : s.ok w v) (hk : ∀ g, s.own v = some g → w'.heap[g]? = w.heap[g]?) : s.ok w' v := by
  cases s with
  | val u => exact h
  | row e size n xs => exact Sl.keep h hk
theorem Rec.keep (h : Rec w base r t N f sp) (hr : w'.heap[r]? = w.heap[r]?) (hk : ∀ k, k < N → ∀ g, (sp k).own (f k) = some g → w'.heap[g]? = w.heap[g]?) : Rec w' base r t N f sp :=
  ⟨hr.trans h.blk, h.ge, fun k hkn => FS.ok_keep (h.ok k hkn) (hk k hkn), h.ty, h.own, h.dis⟩
theorem Rec.only (h : Rec w base r t N f sp) {T : List Nat} (ho : Only T w w') (hT : ∀ g ∈ T, ∃ tg cs, Blk w g tg cs ∧ tg ≠ t ∧ ∀ k, k < N → (sp k).elem ≠ some tg) : Rec w' base r t N f sp := by
  refine h.keep (ho.block r h.blk.lt fun hm => ?_) fun k hk g hg => ho.block g (h.own_lt hk hg) fun hm => ?_
  · obtain ⟨tg, cs, hb, hne, _⟩ := hT r hm
    exact hne (hb.ty_eq h.blk)
  · obtain ⟨tg, cs, hb, _, hne⟩ := hT g hm
    obtain ⟨e, cur, he, hb2⟩ := h.ownty hk hg
    exact hne k hk (by rw [he, hb2.ty_eq hb])
theorem Rec.only0 (h : Rec w base r t N f sp) (ho : Only [] w w') : Rec w' base r t N f sp := h.only ho fun g hg => by simp at hg
/-- A field is given another value, whose memory is the field's own, or new. -/
theorem Rec.put (h : Rec w base r t N f sp) {k : Nat} (hk : k < N) {u : Value} (hg : w.grownBy w1 ((sp k).own (f k))) (hu : (sp' k).ok w1 u) (hty : (sp' k).elem ≠ some t)
    (hown : ∀ g, (sp' k).own u = some g → (sp k).own (f k) = some g ∨ w.heap.size ≤ g) (hsp : ∀ j, j < N → j ≠ k → sp' j = sp j) :
    Rec (w1.setCell ⟨r, k, none⟩ u) base r t N (upd f k u) sp' ∧ Below base w (w1.setCell ⟨r, k, none⟩ u) ∧ Only (r :: ((sp k).own (f k)).toList) w (w1.setCell ⟨r, k, none⟩ u) ∧ Blk w1 r t (cellsN N f) := by
  have hb1 : Blk w1 r t (cellsN N f) := (hg.block r h.blk.lt fun e => h.own_ne hk e.symm rfl).trans h.blk
  have ho : Only (r :: ((sp k).own (f k)).toList) w (w1.setCell ⟨r, k, none⟩ u) := ((Only.refl _ w).grown hg fun g hg => .inl (by simp [hg])).setCell (.inl (by simp)) _
  have hbase : base ≤ w.heap.size := Nat.le_trans h.ge (Nat.le_of_lt h.blk.lt)
  have hur : ∀ g, (sp' k).own u = some g → g ≠ r := fun g hg2 => by
    rintro rfl
    cases hs : sp' k with
    | val u => rw [hs] at hg2; cases hg2
    | row e size n xs =>
      rw [hs] at hg2 hu hty
      obtain ⟨cur, hc⟩ := Sl.ty hu hg2
      exact hty (congrArg some (hc.ty_eq hb1))
  have hfar : ∀ g, g ≠ r → (w1.setCell ⟨r, k, none⟩ u).heap[g]? = w1.heap[g]? := fun g hne => Below.heap_setCell w1 _ u g (fun e => hne e)
  refine ⟨⟨?_, h.ge, fun j hj => ?_, fun j hj => ?_, fun j hj g hgj => ?_, fun i j hi hj hij g hgi hgj => ?_⟩, ?_, ho, hb1⟩
  · rw [← cellsN_set]; exact hb1.set_ k u
  · by_cases hjk : j = k
    · subst hjk
      rw [upd_same]
      exact FS.ok_keep hu fun g hg2 => hfar g (hur g hg2)
    · rw [upd_ne _ _ _ _ hjk, hsp j hj hjk]
      refine FS.ok_keep (h.ok j hj) fun g hgj => (hfar g (h.own_ne hj hgj)).trans (hg.block g (h.own_lt hj hgj) fun e => ?_)
      exact h.dis j k hj hk hjk g hgj e.symm
  · by_cases hjk : j = k
    · subst hjk; exact hty
    · rw [hsp j hj hjk]; exact h.ty j hj
  · by_cases hjk : j = k
    · subst hjk
      rw [upd_same] at hgj
      rcases hown g hgj with h1 | h1
      · exact h.own j hj g h1
      · omega
    · rw [upd_ne _ _ _ _ hjk, hsp j hj hjk] at hgj
      exact h.own j hj g hgj
  · by_cases hik : i = k
    · subst hik
      have hjk : j ≠ i := fun e => hij e.symm
      rw [upd_same] at hgi
      rw [upd_ne _ _ _ _ hjk, hsp j hj hjk] at hgj
      rcases hown g hgi with h1 | h1
      · exact h.dis i j hi hj hij g h1 hgj
      · have := h.own_lt hj hgj; omega
    · rw [upd_ne _ _ _ _ hik, hsp i hi hik] at hgi
      by_cases hjk : j = k
      · subst hjk
        rw [upd_same] at hgj
        rcases hown g hgj with h1 | h1
        · exact h.dis i j hi hj hij g hgi h1
        · have := h.own_lt hi hgi; omega
      · rw [upd_ne _ _ _ _ hjk, hsp j hj hjk] at hgj
        exact h.dis i j hi hj hij g hgi hgj
  · refine ⟨ho.os, ho.tape, ho.output, ho.size, fun i hi => ho.block i (by omega) fun hm => ?_⟩
    simp only [List.mem_cons, Option.mem_toList] at hm
    rcases hm with rfl | hm
    · have := h.ge; omega
    · have := h.own k hk i hm; omega
end
end Go.Fl
