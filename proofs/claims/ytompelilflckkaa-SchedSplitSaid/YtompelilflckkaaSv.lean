/-
  The scheduler: a run ahead of its first step.
-/
import Derived.Test.YtompelilflckkaaSr
namespace Go.Proofs.Ytompelilflckkaa
open Go.RowKit Go.Fl

/-- Tasks that were given. -/
def TasksV (base : Nat) (w : World) (tv : Value) (acts : List (List A)) : Prop :=
  ∃ a cap, tv = .slice a acts.length cap ∧ acts.length ≤ cap ∧ cap ≤ maxLen ∧ (0 < acts.length → ∃ g off, a = some ⟨g, off, none⟩ ∧ g < base ∧ g < w.heap.size ∧ ∀ i (h : i < acts.length), ∃ v, w.cell? ⟨g, off + i, none⟩ = some v ∧ ActsV base w v acts[i])
theorem TasksV.below {base : Nat} {w w' : World} {tv : Value} {acts : List (List A)} (h : TasksV base w tv acts) (hb : Below base w w') : TasksV base w' tv acts := by
  obtain ⟨a, cap, rfl, h1, h2, h3⟩ := h
  refine ⟨a, cap, rfl, h1, h2, fun h0 => ?_⟩
  obtain ⟨g, off, rfl, hg, hgs, hh⟩ := h3 h0
  refine ⟨g, off, rfl, hg, Nat.lt_of_lt_of_le hgs hb.size, fun i hi => ?_⟩
  obtain ⟨v, hv, ha⟩ := hh i hi
  exact ⟨v, (World.cell?_of_block (w := w) (a := ⟨g, off + i, none⟩) (hb.block g hg)).trans hv, ha.below hb⟩
theorem cellsN_of (cs : Array Value) : cs = cellsN cs.size (fun k => cs.getD k .nilIface) := by
  apply Array.ext_getElem?
  intro j
  by_cases hj : j < cs.size
  · rw [cellsN_get hj, Array.getD_eq_getD_getElem?, Array.getElem?_eq_getElem hj]; rfl
  · rw [Array.getElem?_eq_none (by omega), Array.getElem?_eq_none (by simp [cellsN]; omega)]
theorem ptrs_upd (b : Nat → Nat) (n g : Nat) : ptrs (upd b n g) (n + 1) = ptrs b n ++ [.pointer (some ⟨g, 0, none⟩)] := by
  unfold ptrs
  rw [List.range_succ, List.map_append, List.map_cons, List.map_nil, upd_same]
  congr 1
  apply List.map_congr_left
  intro i hi
  rw [upd_ne _ _ _ _ (by have := List.mem_range.1 hi; omega)]
theorem spec_begin (b b' : Nat → Nat) (l l' : List (List A)) (room : Int) {j : Nat} (hj : j ≠ 0) : spec b' (begin_ l' room) j = spec b (begin_ l room) j :=
  ite_cg (fun h => absurd h hj) fun _ => rfl
section
variable {w w1 w2 : World} {base r : Nat} {f : Nat → Value} {b : Nat → Nat}
theorem RS.addTask {l : List (List A)} {acts : List A} {room : Int} {g : Nat} {v v' : Value} (h : RS w1 base r f b (begin_ l room)) (hB : TaskB w1 g v ⟨acts, 0, -1, 0, false, 0⟩) (hA : ActsV base w1 v acts) (hg : base ≤ g) (hgn : ∀ i, i < l.length → b i ≠ g)
    (hS : Sl w2 77 1 v' (l.length + 1) (ptrs b l.length ++ [.pointer (some ⟨g, 0, none⟩)])) (hgr : w1.grownBy w2 (f 0).ownBlock) (hown : ∀ g, v'.ownBlock = some g → (f 0).ownBlock = some g ∨ w1.heap.size ≤ g) :
    RS (w2.setCell ⟨r, 0, none⟩ v') base r (upd f 0 v') (upd b l.length g) (begin_ (l ++ [acts]) room) ∧ Below base w1 (w2.setCell ⟨r, 0, none⟩ v') ∧ Blk w2 r 76 (cellsN 24 f) := by
  have e0 : spec (upd b l.length g) (begin_ (l ++ [acts]) room) 0 = .row 77 1 (l.length + 1) (ptrs b l.length ++ [.pointer (some ⟨g, 0, none⟩)]) := by
    show FS.row 77 1 (l ++ [acts]).length (ptrs _ (l ++ [acts]).length) = _
    rw [List.length_append, List.length_singleton, ptrs_upd]
  obtain ⟨h1, h2, h3, h4⟩ := h.rc.put (k := 0) (u := v') (sp' := spec (upd b l.length g) (begin_ (l ++ [acts]) room)) (by omega) hgr (by rw [e0]; exact hS) (fun e => by have := spec_elem e; omega) (fun g hg => by rw [e0] at hg; exact hown g hg) (fun j _ hj => spec_begin _ _ _ _ _ hj)
  have hkeep : ∀ {k : Nat} {u : Value} {t : T}, TaskB w1 k u t → TaskB (w2.setCell ⟨r, 0, none⟩ v') k u t := fun {k u t} hb => Blk.only hb h3 fun hm => by
    simp only [List.mem_cons, Option.mem_toList] at hm
    rcases hm with hm | hm
    · have := Blk.ty_eq (hm ▸ hb : Blk w1 r 80 _) h.rc.blk
      cases this
    · obtain ⟨e, cur, he, hb2⟩ := h.rc.ownty (by omega) hm
      have h7 : e = 80 := hb2.ty_eq hb
      have h8 := spec_elem he
      rw [h7] at h8
      simp at h8
  have hlen : (begin_ (l ++ [acts]) room).n = l.length + 1 := by show (l ++ [acts]).length = _; simp
  refine ⟨⟨h1, fun i hi => ?_, fun i hi => ?_, fun i j hi hj hij => ?_⟩, h2, h4⟩
  · rw [hlen] at hi
    by_cases hil : i = l.length
    · subst hil
      rw [upd_same]
      have e : (begin_ (l ++ [acts]) room).ts l.length = ⟨acts, 0, -1, 0, false, 0⟩ := by
        show (⟨(l ++ [acts]).getD l.length [], 0, -1, 0, false, 0⟩ : T) = _
        rw [List.getD_eq_getElem?_getD, List.getElem?_append_right (Nat.le_refl _), Nat.sub_self]; rfl
      rw [e]
      exact ⟨v, hkeep hB, hA.below h2⟩
    · have hi2 : i < l.length := by omega
      rw [upd_ne _ _ _ _ hil]
      have e : (begin_ (l ++ [acts]) room).ts i = (begin_ l room).ts i := by
        show (⟨(l ++ [acts]).getD i [], 0, -1, 0, false, 0⟩ : T) = ⟨l.getD i [], 0, -1, 0, false, 0⟩
        rw [List.getD_eq_getElem?_getD, List.getElem?_append_left hi2, List.getD_eq_getElem?_getD]
      rw [e]
      obtain ⟨v2, h5, h6⟩ := h.task i hi2
      exact ⟨v2, hkeep h5, h6.below h2⟩
  · rw [hlen] at hi
    by_cases hil : i = l.length
    · subst hil; rw [upd_same]; exact hg
    · rw [upd_ne _ _ _ _ hil]; exact h.tb i (show i < l.length by omega)
  · rw [hlen] at hi hj
    by_cases hil : i = l.length
    · subst hil
      rw [upd_same, upd_ne _ _ _ _ (fun e => hij e.symm)]
      exact fun e => hgn j (by omega) e.symm
    · rw [upd_ne _ _ _ _ hil]
      by_cases hjl : j = l.length
      · subst hjl; rw [upd_same]; exact hgn i (by omega)
      · rw [upd_ne _ _ _ _ hjl]
        exact h.bdis i j (show i < l.length by omega) (show j < l.length by omega) hij
end
end Go.Proofs.Ytompelilflckkaa
