/-
  SchedSplit: helpers of its walk.
-/
import Derived.Test.YtompelilflckkaaXe
import Derived.Test.YtompelilflckkaaXa
import Derived.Test.YtompelilflckkaaXb
namespace Go.Proofs.Ytompelilflckkaa
open Go.RowKit Go.Fl

theorem asked_of2 {acts : List (List A)} {room m m' : Int} {ps qs : List Int} (h : askedM acts room ps m = 0) (h0 : 0 ≤ m') (h1 : m' ≤ 65536) (h2 : qs.length ≤ 65536) (h3 : ∀ k ∈ qs, 0 ≤ k) : askedM acts room qs m' = 0 := by
  obtain ⟨q1, q2, q3, q4, q5, q6, q7, q8, q9, q10⟩ := asked_zero h
  have hm : mayM acts = 0 := by
    unfold askedM at h
    by_cases e : mayM acts ≠ 0
    · rw [if_pos e] at h; exact absurd h e
    · omega
  have hp : qs.any (fun k => decide (k < 0)) = false := by
    rw [Bool.eq_false_iff]
    intro ht
    obtain ⟨l, hl1, h2⟩ := List.any_eq_true.1 ht
    have := h3 l hl1
    simp at h2
    omega
  unfold askedM
  rw [hm, hp, if_neg (by omega), if_neg (by omega), if_neg (by decide)]
theorem row_take {α : Type} {f : α → Value} {w : World} {a : Option Addr} {c : Nat} {l : List α} (h : Row f w (.slice a l.length c) l) {i : Nat} (hi : i ≤ l.length) : Row f w (.slice a i c) (l.take i) := by
  obtain ⟨a', c', e, h1, h2, h3⟩ := h
  injection e with e1 _ e3
  subst e1
  subst e3
  have hl : (l.take i).length = i := by rw [List.length_take]; omega
  refine ⟨a, c, by rw [hl], by omega, h2, fun h0 => ?_⟩
  obtain ⟨g, off, rfl, hg, hh⟩ := h3 (by omega)
  refine ⟨g, off, rfl, hg, fun j hj => ?_⟩
  rw [hl] at hj
  rw [hh j (by omega), List.getElem_take]
/-- The slices' shapes. -/
theorem RD.shapes {w : World} {s : S} {tr rg en qs : Value} (h : RD w s tr rg en qs) : (∃ a c, tr = .slice a s.trace.length c) ∧ (∃ a c, rg = .slice a 8 c) ∧ (∃ a c, en = .slice a s.n c) ∧ ∃ a c, qs = .slice a 4 c := by
  obtain ⟨a1, c1, h1, _, _⟩ := h.tr
  obtain ⟨a2, c2, h2, _, _⟩ := h.rg
  obtain ⟨a3, c3, h3, _, _⟩ := h.en
  obtain ⟨g4, o4, c4, h4, _, _⟩ := h.qs
  exact ⟨⟨_, _, h1⟩, ⟨a2, c2, by rw [h2]; simp⟩, ⟨_, _, h3⟩, ⟨_, _, h4⟩⟩
/-- A run's result in its block: what is read of it. -/
structure RB (w : World) (s : S) (g : Nat) : Prop where
  it : ∃ tr rg en qs, Blk w g 33 #[iv s.trace.length, tr, rg, en, qs] ∧ RD w s tr rg en qs
theorem RB.only {w w' : World} {s : S} {g : Nat} (h : RB w s g) (ho : Only [] w w') : RB w' s g := by
  obtain ⟨tr, rg, en, qs, h1, h2⟩ := h.it
  exact ⟨tr, rg, en, qs, h1.only ho (by simp), h2.only ho⟩
end Go.Proofs.Ytompelilflckkaa
