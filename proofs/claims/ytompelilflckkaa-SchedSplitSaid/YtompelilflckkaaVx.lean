/-
  Acts and tasks as slices of one's own; what may be asked for.
-/
import Derived.Test.YtompelilflckkaaUg
namespace Go.Proofs.Ytompelilflckkaa
open Go.RowKit Go.Fl

def flatA (l : List A) : List Value := l.flatMap fun a => [iv a.kind, iv a.a, iv a.b, iv a.n]
theorem flatA_append (x y : List A) : flatA (x ++ y) = flatA x ++ flatA y := by simp [flatA]
theorem flatA_one (a : A) : flatA [a] = [iv a.kind, iv a.a, iv a.b, iv a.n] := rfl
theorem flatA_cons (a : A) (l : List A) : flatA (a :: l) = [iv a.kind, iv a.a, iv a.b, iv a.n] ++ flatA l := by simp [flatA]
theorem flatA_at : ∀ (l : List A) (i : Nat) (h : i < l.length), (flatA l)[i * 4]? = some (iv l[i].kind) ∧ (flatA l)[i * 4 + 1]? = some (iv l[i].a) ∧ (flatA l)[i * 4 + 2]? = some (iv l[i].b) ∧ (flatA l)[i * 4 + 3]? = some (iv l[i].n)
  | [], i, h => absurd h (Nat.not_lt_zero _)
  | a :: l, 0, _ => ⟨rfl, rfl, rfl, rfl⟩
  | a :: l, i + 1, h => by
    have := flatA_at l i (by simpa using h)
    rw [flatA_cons]
    simp only [List.getElem_cons_succ]
    rw [List.getElem?_append_right (by simp; omega), List.getElem?_append_right (by simp; omega), List.getElem?_append_right (by simp; omega), List.getElem?_append_right (by simp; omega)]
    simp only [List.length_cons, List.length_nil]
    rw [show (i + 1) * 4 - (0 + 1 + 1 + 1 + 1) = i * 4 by omega, show (i + 1) * 4 + 1 - (0 + 1 + 1 + 1 + 1) = i * 4 + 1 by omega, show (i + 1) * 4 + 2 - (0 + 1 + 1 + 1 + 1) = i * 4 + 2 by omega, show (i + 1) * 4 + 3 - (0 + 1 + 1 + 1 + 1) = i * 4 + 3 by omega]
    exact this
theorem info47 : (Try.prog.info? 47).map (fun i => (i.zero, i.size, i.bytes)) = some (some (.agg #[iv 0, iv 0, iv 0, iv 0]), 4, 32) := by kernel_rfl
theorem sl_quad {w : World} {g e : Nat} {x y z u : Value} {c : Nat} (h : Blk w g e #[x, y, z, u]) (hc : c = 1) : Sl w e 4 (.slice (some ⟨g, 0, none⟩) 1 c) 1 [x, y, z, u] :=
  ⟨rfl, .inr ⟨g, 0, c, _, rfl, h, by omega, by rw [hc]; decide, by rw [hc]; exact Nat.le_refl 4, rfl⟩⟩
/-- Acts in a slice of one's own. -/
theorem acts_sl {w : World} {v : Value} {n : Nat} {l : List A} (h : Sl w 47 4 v n (flatA l)) (hn : n = l.length) : ActsV w.heap.size w v l := by
  subst hn
  by_cases h0 : 0 < l.length
  · obtain ⟨g, off, cap, rfl, hg, hc, hm, hcell, _⟩ := h.form h0
    refine ⟨_, _, rfl, hc, hm, fun _ => ⟨g, off, rfl, hg, hg, fun i hi => ?_⟩⟩
    obtain ⟨h1, h2, h3, h4⟩ := flatA_at l i hi
    refine ⟨(hcell _ (by omega)).trans h1, ?_, ?_, ?_⟩
    · rw [Nat.add_assoc]; exact (hcell _ (by omega)).trans h2
    · rw [Nat.add_assoc]; exact (hcell _ (by omega)).trans h3
    · rw [Nat.add_assoc]; exact (hcell _ (by omega)).trans h4
  · obtain ⟨a, cap, rfl, hc, _⟩ := h.shape
    rcases h.2 with ⟨e, _⟩ | ⟨g, off, cap', cur, e, _, _, hm, _⟩
    · injection e with e1 e2 e3
      subst e1; subst e3
      exact ⟨_, _, rfl, hc, by decide, fun h => absurd h h0⟩
    · injection e with e1 e2 e3
      subst e3
      exact ⟨_, _, rfl, hc, hm, fun h => absurd h h0⟩
/-- Tasks in a slice of one's own. -/
theorem tasks_sl {w : World} {v : Value} {n : Nat} {vs : List Value} {acts : List (List A)} (h : Sl w 45 1 v n vs) (hn : n = acts.length) (ha : ∀ i (hi : i < acts.length) (hv : i < vs.length), ActsV w.heap.size w vs[i] acts[i]) : TasksV w.heap.size w v acts := by
  subst hn
  have hl := h.len
  by_cases h0 : 0 < acts.length
  · obtain ⟨g, off, cap, rfl, hg, hc, hm, hcell, _⟩ := h.form h0
    refine ⟨_, _, rfl, hc, hm, fun _ => ⟨g, off, rfl, hg, hg, fun i hi => ?_⟩⟩
    refine ⟨vs[i]'(by omega), (hcell _ (by omega)).trans (List.getElem?_eq_getElem _), ha i hi _⟩
  · obtain ⟨a, cap, rfl, hc, _⟩ := h.shape
    rcases h.2 with ⟨e, _⟩ | ⟨g, off, cap', cur, e, _, _, hm, _⟩
    · injection e with e1 e2 e3
      subst e1; subst e3
      exact ⟨_, _, rfl, hc, by decide, fun h => absurd h h0⟩
    · injection e with e1 e2 e3
      subst e3
      exact ⟨_, _, rfl, hc, hm, fun h => absurd h h0⟩
theorem asked_of {acts : List (List A)} {room most : Int} {ps : List Int} (h1 : acts.length ≤ 16) (h2 : 1 ≤ room) (h3 : room ≤ 16) (h4 : 0 ≤ most) (h5 : most ≤ 65536) (h6 : ps.length ≤ 65536) (h7 : ∀ k ∈ ps, 0 ≤ k) (h8 : ∀ l ∈ acts, l.length ≤ 256 ∧ ∀ a ∈ l, oddA a = false ∧ wrongA l.length a = false) : askedM acts room ps most = 0 := by
  have hodd : oddsIn acts = false := by
    unfold oddsIn
    rw [Bool.eq_false_iff]
    intro ht
    obtain ⟨l, hl1, h2⟩ := List.any_eq_true.1 ht
    obtain ⟨a, ha, h3⟩ := List.any_eq_true.1 h2
    rw [((h8 l hl1).2 a ha).1] at h3
    cases h3
  have hwr : wrongsIn acts = false := by
    unfold wrongsIn
    rw [Bool.eq_false_iff]
    intro ht
    obtain ⟨l, hl1, h2⟩ := List.any_eq_true.1 ht
    obtain ⟨a, ha, h3⟩ := List.any_eq_true.1 h2
    rw [((h8 l hl1).2 a ha).2] at h3
    cases h3
  have hlen : acts.any (fun l => decide (256 < l.length)) = false := by
    rw [Bool.eq_false_iff]
    intro ht
    obtain ⟨l, hl1, h2⟩ := List.any_eq_true.1 ht
    have := (h8 l hl1).1
    simp at h2
    omega
  have hp : ps.any (fun k => decide (k < 0)) = false := by
    rw [Bool.eq_false_iff]
    intro ht
    obtain ⟨l, hl1, h2⟩ := List.any_eq_true.1 ht
    have := h7 l hl1
    simp at h2
    omega
  have hm : mayM acts = 0 := by
    unfold mayM
    rw [hodd, hwr, hlen, if_neg (fun h => h.elim (by omega) (by simp)), if_neg (by decide), if_neg (by decide)]
  unfold askedM
  rw [hm, hp, if_neg (by omega), if_neg (by omega), if_neg (by decide)]
end Go.Proofs.Ytompelilflckkaa
