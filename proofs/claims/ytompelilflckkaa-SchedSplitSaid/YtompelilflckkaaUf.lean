/-
  The law's begun.
-/
import Derived.Test.YtompelilflckkaaUc
import Derived.Test.YtompelilflckkaaUd
import Derived.Test.YtompelilflckkaaUe
namespace Go.Proofs.Ytompelilflckkaa
open Go.RowKit Go.Fl

theorem row_nil {α : Type} (f : α → Value) (w : World) : Row f w (.slice none 0 0) [] := ⟨none, 0, rfl, Nat.le_refl _, by simp, fun h => absurd h (Nat.not_lt_zero _)⟩
theorem acts_of {base g : Nat} {w : World} {l : List A} {cs : Array Value} (hb : Blk w g 47 cs) (hg : g < base) (hc : cs = (l.flatMap fun a => [iv a.kind, iv a.a, iv a.b, iv a.n]).toArray) (hm : l.length ≤ maxLen) : ActsV base w (.slice (some ⟨g, 0, none⟩) l.length l.length) l := by
  have hat : ∀ (l : List A) (i : Nat) (h : i < l.length), (l.flatMap fun a => [iv a.kind, iv a.a, iv a.b, iv a.n])[i * 4]? = some (iv l[i].kind) ∧ (l.flatMap fun a => [iv a.kind, iv a.a, iv a.b, iv a.n])[i * 4 + 1]? = some (iv l[i].a) ∧
      (l.flatMap fun a => [iv a.kind, iv a.a, iv a.b, iv a.n])[i * 4 + 2]? = some (iv l[i].b) ∧ (l.flatMap fun a => [iv a.kind, iv a.a, iv a.b, iv a.n])[i * 4 + 3]? = some (iv l[i].n) := by
    intro l
    induction l with
    | nil => intro i h; exact absurd h (Nat.not_lt_zero _)
    | cons a l ih =>
      intro i h
      cases i with
      | zero => exact ⟨rfl, rfl, rfl, rfl⟩
      | succ i =>
        have := ih i (by simpa using h)
        simp only [List.flatMap_cons, List.getElem_cons_succ]
        rw [List.getElem?_append_right (by simp; omega), List.getElem?_append_right (by simp; omega), List.getElem?_append_right (by simp; omega), List.getElem?_append_right (by simp; omega)]
        simp only [List.length_cons, List.length_nil]
        rw [show (i + 1) * 4 - (0 + 1 + 1 + 1 + 1) = i * 4 by omega, show (i + 1) * 4 + 1 - (0 + 1 + 1 + 1 + 1) = i * 4 + 1 by omega, show (i + 1) * 4 + 2 - (0 + 1 + 1 + 1 + 1) = i * 4 + 2 by omega, show (i + 1) * 4 + 3 - (0 + 1 + 1 + 1 + 1) = i * 4 + 3 by omega]
        exact this
  refine ⟨_, _, rfl, Nat.le_refl _, hm, fun h0 => ⟨g, 0, rfl, hg, hb.lt, fun i hi => ?_⟩⟩
  obtain ⟨h1, h2, h3, h4⟩ := hat l i hi
  subst hc
  refine ⟨(hb.cell _).trans ?_, (hb.cell _).trans ?_, (hb.cell _).trans ?_, (hb.cell _).trans ?_⟩
  · simpa using h1
  · simpa using h2
  · simpa using h3
  · simpa using h4
end Go.Proofs.Ytompelilflckkaa
