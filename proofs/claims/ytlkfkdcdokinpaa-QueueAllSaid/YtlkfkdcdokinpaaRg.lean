/-
  The document's own queue: Take, its relation.
-/
import Derived.Test.YtlkfkdcdokinpaaRf
namespace Go.Proofs.Ytlkfkdcdokinpaa
open Go.RowKit Go.Fl

theorem r_hold {w w4 : World} {r : Nat} {cap bytes : Int} {held line : List Item} {iv lv v4 : Value} {held' : List Item} (h : ROk w r cap bytes held line iv lv) (hh : Held cap bytes held')
    (hS : Sl w4 38 2 v4 held'.length (cells held')) (hO : Only iv.ownBlock.toList w w4) (hN : v4.ownBlock = iv.ownBlock ∨ ∀ g, v4.ownBlock = some g → w.heap.size ≤ g) :
    ROk (w4.setCell ⟨r, 2, none⟩ v4) r cap bytes held' line v4 lv := by
  have hB4 := h.B.only hO (not_own h.ri)
  have hL4 := h.L.only hO (fun g hg => not_own (fun hh => h.sep g hh hg))
  have hv4 := blk_sl_ne hB4 hS (by decide)
  refine ⟨hh, h.okl, h.cap0, h.byt0, h.lenl, ?_, hS.far (p := ⟨r, 2, none⟩) hv4 v4, hL4.far (p := ⟨r, 2, none⟩) h.rl v4, ?_⟩
  · simpa [RB] using hB4.set_ 2 v4
  · intro g hg hg'
    rcases hN with h1 | h1
    · exact h.sep g (h1 ▸ hg) hg'
    · have := h1 g hg; have := h.L.lt g hg'; omega
theorem Held.tail {cap bytes : Int} {x : Item} {held : List Item} (h : Held cap bytes (x :: held)) : Held cap bytes held := by
  have hx := (h.sized x (List.mem_cons_self ..)).1
  refine ⟨?_, h.cap1, ?_, h.byt1, fun y hy => h.sized y (List.mem_cons_of_mem _ hy)⟩
  · have := h.len; simp at this; omega
  · have := h.byt; rw [sum_cons] at this; omega

structure RT (w : World) (r : Nat) (cap bytes : Int) (held line : List Item) (iv lv : Value) (most byt : Int) (v : Value) (wr : World) (iv1 : Value) (out held1 : List Item) : Prop where
  step : takeL most byt out held1 = takeL most byt [] held
  H : ROk wr r cap bytes held1 line iv1 lv
  O : Sl wr 38 2 v out.length (cells out)
  fresh : ∀ g, v.ownBlock = some g → w.heap.size ≤ g
  far : ∀ g, v.ownBlock = some g → g ∉ rblocks r iv1 lv
  only : Only (rblocks r iv lv) w wr
  blocks : ∀ g, iv1.ownBlock = some g → iv.ownBlock = some g ∨ w.heap.size ≤ g
  len : out.length + held1.length = held.length
  sum : Go.Proofs.Ytlkfkdcdokinpaa.sum out + Go.Proofs.Ytlkfkdcdokinpaa.sum held1 = Go.Proofs.Ytlkfkdcdokinpaa.sum held
  pos : Sized out
def RTE (w : World) (r : Nat) (cap bytes : Int) (held line : List Item) (iv lv : Value) (most byt : Int) (k : Nat) (v : Value) (wr : World) : Prop :=
  ∃ iv1 out held1, k = held1.length ∧ RT w r cap bytes held line iv lv most byt v wr iv1 out held1
def RTakeD (w : World) (r : Nat) (S : List Nat) (cap bytes : Int) (m : (List Item × List Int) × List Item × List Item) (e : Ending) (w' : World) : Prop :=
  ∃ v u, e = .returned (.tuple #[v, u]) ∧ Fresh w w' v m.1.1 ∧ FreshI w w' u m.1.2 ∧ RStep w w' r S cap bytes m.2.1 m.2.2

theorem rt_step {w wr w1 w2 w3 : World} {r : Nat} {cap bytes : Int} {held line : List Item} {iv lv : Value} {most byt : Int} {v iv1 v2 v3 : Value} {out held2 : List Item} {x : Item} (h : RT w r cap bytes held line iv lv most byt v wr iv1 out (x :: held2))
    (hst : (out.length : Int) < most ∧ (out = [] ∨ Go.Proofs.Ytlkfkdcdokinpaa.sum out + x.2 ≤ byt)) (o1 : Only [] wr w1) (hO2 : Sl w2 38 2 v2 (out.length + 1) (cells out ++ [.int .i64 x.1, .int .i64 x.2])) (o2 : Only v.ownBlock.toList w1 w2) (hat2 : v2.ownBlock = v.ownBlock ∨ v2.ownBlock = some (w1.heap.size + 1))
    (h3 : ROk (w3.setCell ⟨r, 2, none⟩ v3) r cap bytes held2 line v3 lv) (o3 : Only [] w2 w3) (hat3 : ∀ g, v3.ownBlock = some g → w2.heap.size ≤ g) :
    RT w r cap bytes held line iv lv most byt v2 (w3.setCell ⟨r, 2, none⟩ v3) v3 (out ++ [x]) held2 := by
  have hx := h.H.okh.sized x (List.mem_cons_self ..)
  have hs1 := o1.size
  have hs2 := o2.size
  have hs := h.only.size
  have ho2 := (h.only.trans' o1 (by simp)).trans' o2 (fun i hi => .inr (h.fresh i (by simpa using hi)))
  have ho3 := (ho2.trans' o3 (by simp)).setCell (p := ⟨r, 2, none⟩) (.inl mem_r) v3
  have hn2 : ∀ g, v2.ownBlock = some g → v.ownBlock = some g ∨ w1.heap.size ≤ g := fun g hg => by
    rcases hat2 with h1 | h1
    · exact .inl (h1 ▸ hg)
    · rw [h1] at hg; injection hg with hg; exact .inr (by omega)
  have hlt2 := hO2.lt
  have hfar2 : ∀ g, v2.ownBlock = some g → g ≠ r ∧ lv.ownBlock ≠ some g := fun g hg => by
    rcases hn2 g hg with h1 | h1
    · have := h.far g h1
      rw [mem_r'] at this
      exact ⟨fun e => this (.inl e), fun e => this (.inr (.inr e))⟩
    · exact ⟨fun e => by have := h.H.B.lt; omega, fun e => by have := h.H.L.lt g e; omega⟩
  refine ⟨?_, h3, ?_, fun g hg => ?_, fun g hg hh => ?_, ho3, fun g hg => ?_, ?_, ?_, ?_⟩
  · rw [← h.step]; conv => rhs; rw [takeL, if_pos hst]
  · have := (hO2.only o3 (by simp)).far (p := ⟨r, 2, none⟩) (fun e => (hfar2 r e).1 rfl) v3
    rw [cells_append, List.length_append]
    exact this
  · rcases hn2 g hg with h1 | h1
    · exact h.fresh g h1
    · omega
  · rw [mem_r'] at hh
    rcases hh with hh | hh | hh
    · exact (hfar2 g hg).1 hh
    · have := hat3 g hh; have := hlt2 g hg; omega
    · exact (hfar2 g hg).2 hh
  · have := hat3 g hg; exact .inr (by omega)
  · have := h.len; simp at this ⊢; omega
  · have := h.sum; rw [sum_cons] at this; rw [sum_append]; omega
  · intro y hy
    rcases List.mem_append.1 hy with hy | hy
    · exact h.pos y hy
    · simp at hy; subst hy; exact hx
theorem rt_end {w wr w1 w2 : World} {r : Nat} {cap bytes : Int} {held line : List Item} {iv lv : Value} {most byt : Int} {v u iv1 : Value} {out held1 : List Item} (h : RT w r cap bytes held line iv lv most byt v wr iv1 out held1)
    (hs : takeL most byt out held1 = (out, held1)) (o1 : Only [] wr w1) (hF : FreshI w1 w2 u (come cap bytes held1 line).1) (hQ : RStep w1 w2 r (rblocks r iv1 lv) cap bytes (come cap bytes held1 line).2.1 (come cap bytes held1 line).2.2)
    {e : Ending} (he : e = .returned (.tuple #[v, u])) : RTakeD w r (rblocks r iv lv) cap bytes (takeM cap bytes held line most byt) e w2 := by
  have hm : takeM cap bytes held line most byt = ((out, (come cap bytes held1 line).1), (come cap bytes held1 line).2) := by unfold takeM; rw [← h.step, hs]
  rw [hm]
  have hb : ∀ g ∈ rblocks r iv1 lv, g ∈ rblocks r iv lv ∨ w.heap.size ≤ g := fun g hg => by
    rw [mem_r'] at hg
    rcases hg with rfl | hg | hg
    · exact .inl mem_r
    · exact (h.blocks g hg).imp mem_iv (fun x => x)
    · exact .inl (mem_rl hg)
  have hQ2 := RStep.trans (h.only.trans' o1 (by simp)) hb hQ
  obtain ⟨S', q1, q2, q3⟩ := hQ
  refine ⟨v, u, he, ⟨(h.O.only o1 (by simp)).only q2 (fun g hg => h.far g hg), h.fresh⟩, ⟨hF.1, fun g hg => Nat.le_trans (Nat.le_trans h.only.size o1.size) (hF.2 g hg)⟩, hQ2⟩
end Go.Proofs.Ytlkfkdcdokinpaa
