/-
  The document's own queue: Put whole; come.
-/
import Derived.Test.YtlkfkdcdokinpaaRd
import Derived.Deep.LoopGhost
namespace Go.Proofs.Ytlkfkdcdokinpaa
open Go.RowKit Go.Fl

theorem rput_ok {r : Nat} {cap bytes : Int} {held line : List Item} {S : List Nat} (id size : Int) (w : World) (h : RIs w r S cap bytes held line) :
    Calls Try.prog 13 #[.pointer (some ⟨r, 0, none⟩), .int .i64 id, .int .i64 size] w fun e w' => e = .returned (bi (putM cap bytes held line id size).1) ∧
      RStep w w' r S cap bytes (putM cap bytes held line id size).2.1 (putM cap bytes held line id size).2.2 := by
  obtain ⟨iv, lv, h, hS⟩ := h
  have hca : (idsOf (held ++ line)).contains id = ((idsOf held).contains id || (idsOf line).contains id) := by
    rw [idsOf_append, Bool.eq_iff_iff]; simp
  by_cases hc : size < 0 ∨ (¬ size < 0 ∧ bytes < size) ∨ (¬ size < 0 ∧ ¬ bytes < size ∧ (idsOf held).contains id = true) ∨ (¬ size < 0 ∧ ¬ bytes < size ∧ (idsOf held).contains id = false ∧ (idsOf line).contains id = true) ∨ (¬ size < 0 ∧ ¬ bytes < size ∧ (idsOf held).contains id = false ∧ (idsOf line).contains id = false ∧ line.length = 1024)
  · refine (rput_err id size w h hc).mono ?_
    rintro e w' ⟨rfl, ho⟩
    refine ⟨rfl, (?_ : RStep _ _ _ _ _ _ _ _).mono hS⟩
    have : (putM cap bytes held line id size).2 = (held, line) := by
      unfold putM
      rw [hca]
      rcases hc with h1 | ⟨h1, h2⟩ | ⟨h1, h2, h3⟩ | ⟨h1, h2, h3, h4⟩ | ⟨h1, h2, h3, h4, h5⟩
      · rw [if_pos h1]
      · rw [if_neg h1, if_pos h2]
      · rw [if_neg h1, if_neg h2, h3, Bool.true_or, if_pos rfl]
      · rw [if_neg h1, if_neg h2, h4, Bool.or_true, if_pos rfl]
      · rw [if_neg h1, if_neg h2, h3, h4, if_neg (by simp), if_pos (by omega)]
    rw [this]
    exact h.is.same ho
  · simp only [not_or, not_and] at hc
    obtain ⟨h1, h2, h3, h4, h5⟩ := hc
    have h3' : (idsOf held).contains id = false := by simpa using h3 h1 (h2 h1)
    have h4' : (idsOf line).contains id = false := by simpa using h4 h1 (h2 h1) h3'
    refine (rput_go id size w h h1 (h2 h1) h3' h4' (h5 h1 (h2 h1) h3' h4')).mono ?_
    rintro e w' ⟨rfl, ho⟩
    exact ⟨rfl, ho.mono hS⟩

/-- The relation of come's loop. -/
structure RC (w : World) (r : Nat) (cap bytes : Int) (held line : List Item) (iv lv v : Value) (wr : World) (iv1 lv1 : Value) (out : List Int) (held1 line1 : List Item) : Prop where
  step : come cap bytes held line = (out ++ (come cap bytes held1 line1).1, (come cap bytes held1 line1).2)
  H : ROk wr r cap bytes held1 line1 iv1 lv1
  O : Sl wr 2 1 v out.length (ints out)
  fresh : ∀ g, v.ownBlock = some g → w.heap.size ≤ g
  only : Only (rblocks r iv lv) w wr
  blocks : ∀ g ∈ rblocks r iv1 lv1, g ∈ rblocks r iv lv ∨ w.heap.size ≤ g
  len : out.length + line1.length = line.length
def RCE (w : World) (r : Nat) (cap bytes : Int) (held line : List Item) (iv lv : Value) (k : Nat) (v : Value) (wr : World) : Prop :=
  ∃ iv1 lv1 out held1 line1, k = line1.length ∧ RC w r cap bytes held line iv lv v wr iv1 lv1 out held1 line1
theorem rc_end {w wr w2 : World} {r : Nat} {cap bytes : Int} {held line : List Item} {iv lv v iv1 lv1 : Value} {out : List Int} {held1 line1 : List Item} (h : RC w r cap bytes held line iv lv v wr iv1 lv1 out held1 line1)
    (ho : Only [] wr w2) (hs : come cap bytes held1 line1 = ([], held1, line1)) : FreshI w w2 v (come cap bytes held line).1 ∧ RStep w w2 r (rblocks r iv lv) cap bytes (come cap bytes held line).2.1 (come cap bytes held line).2.2 := by
  rw [h.step, hs, List.append_nil]
  exact ⟨⟨h.O.only ho (by simp), h.fresh⟩, rblocks r iv1 lv1, (h.H.only ho (by simp)).is, h.only.trans' ho (by simp), h.blocks⟩
/-- One has come in. -/
theorem rc_step {w wr w1 w2 w3 w4 : World} {r : Nat} {cap bytes : Int} {held line : List Item} {iv lv v iv1 lv1 v2 v3 v4 : Value} {out : List Int} {held1 line2 : List Item} {x : Item} (h : RC w r cap bytes held line iv lv v wr iv1 lv1 out held1 (x :: line2))
    (hr : hasRoom cap bytes held1 x.2 = true) (o1 : Only [] wr w1) (hO2 : Sl w2 2 1 v2 (out.length + 1) (ints out ++ [.int .i64 x.1])) (o2 : Only v.ownBlock.toList w1 w2) (hat2 : v2.ownBlock = v.ownBlock ∨ v2.ownBlock = some (w1.heap.size + 1))
    (h3 : ROk (w3.setCell ⟨r, 2, none⟩ v3) r cap bytes (held1 ++ [x]) (x :: line2) v3 lv1) (o3 : Only iv1.ownBlock.toList w2 w3) (hat3 : v3.ownBlock = iv1.ownBlock ∨ ∀ g, v3.ownBlock = some g → w2.heap.size ≤ g)
    (h4 : ROk (w4.setCell ⟨r, 3, none⟩ v4) r cap bytes (held1 ++ [x]) line2 v3 v4) (o4 : Only [] (w3.setCell ⟨r, 2, none⟩ v3) w4) (hat4 : ∀ g, v4.ownBlock = some g → w3.heap.size ≤ g) :
    RC w r cap bytes held line iv lv v2 (w4.setCell ⟨r, 3, none⟩ v4) v3 v4 (out ++ [x.1]) (held1 ++ [x]) line2 := by
  have hs1 := o1.size
  have hs2 := o2.size
  have hs3 := o3.size
  have hs := h.only.size
  have hf : ∀ i ∈ v.ownBlock.toList, i ∈ rblocks r iv lv ∨ w.heap.size ≤ i := fun i hi => .inr (h.fresh i (by simpa using hi))
  have ho2 := (h.only.trans' o1 (by simp)).trans' o2 hf
  have ho3 := ho2.trans' o3 (fun i hi => h.blocks i (mem_iv (by simpa using hi)))
  have ho4 := (((ho3.setCell (p := ⟨r, 2, none⟩) (.inl mem_r) v3).trans' o4 (by simp)).setCell (p := ⟨r, 3, none⟩) (.inl mem_r) v4)
  have hn2 : ∀ g, v2.ownBlock = some g → v.ownBlock = some g ∨ w1.heap.size ≤ g := fun g hg => by
    rcases hat2 with h1 | h1
    · exact .inl (h1 ▸ hg)
    · rw [h1] at hg; injection hg with hg; exact .inr (by omega)
  have hri : v2.ownBlock ≠ some r := by
    intro hh
    rcases hn2 r hh with h1 | h1
    · exact blk_sl_ne h.H.B h.O (by decide) h1
    · have := h.H.B.lt; omega
  have hO3 := hO2.only o3 (fun g hg hh => by
    rcases hn2 g hg with h1 | h1
    · exact sl_sl_ne h.H.I h.O (by decide) g (by simpa using hh) h1
    · have := h.H.I.lt g (by simpa using hh); omega)
  refine ⟨?_, h4, ?_, fun g hg => ?_, ho4, fun g hg => ?_, ?_⟩
  · rw [h.step]; simp [come, hr]
  · have := ((hO3.far (p := ⟨r, 2, none⟩) hri v3).only o4 (by simp)).far (p := ⟨r, 3, none⟩) hri v4
    simpa [ints] using this
  · rcases hn2 g hg with h1 | h1
    · exact h.fresh g h1
    · omega
  · rw [mem_r'] at hg
    rcases hg with hg | hg | hg
    · exact .inl (hg ▸ mem_r)
    · rcases hat3 with h1 | h1
      · exact h.blocks g (mem_iv (h1 ▸ hg))
      · have := h1 g hg; exact .inr (by omega)
    · have := hat4 g hg; exact .inr (by omega)
  · have := h.len; simp at *; omega
end Go.Proofs.Ytlkfkdcdokinpaa
