/-
  The scheduler's Run: a run that may be.
-/
import Derived.Test.YtompelilflckkaaUa
namespace Go.Proofs.Ytompelilflckkaa
open Go.RowKit Go.Fl

theorem asked_zero {acts : List (List A)} {room most : Int} {ps : List Int} (h : askedM acts room ps most = 0) : acts.length ≤ 16 ∧ 1 ≤ room ∧ room ≤ 16 ∧ 0 ≤ most ∧ most ≤ 65536 ∧ ps.length ≤ 65536 ∧ (∀ k ∈ ps, 0 ≤ k) ∧ (∀ l ∈ acts, l.length ≤ 256) ∧ oddsIn acts = false ∧ wrongsIn acts = false := by
  unfold askedM at h
  by_cases h1 : mayM acts = 0
  · rw [if_neg (by simp [h1])] at h
    by_cases h2 : room < 1 ∨ 16 < room ∨ most < 0 ∨ 65536 < most ∨ 65536 < ps.length
    · rw [if_pos h2] at h; cases h
    · rw [if_neg h2] at h
      by_cases h3 : ps.any (fun k => decide (k < 0)) = true
      · rw [if_pos h3] at h; cases h
      · unfold mayM at h1
        by_cases h4 : 16 < acts.length ∨ acts.any (fun l => decide (256 < l.length)) = true
        · rw [if_pos h4] at h1; cases h1
        · rw [if_neg h4] at h1
          by_cases h5 : oddsIn acts = true
          · rw [if_pos h5] at h1; cases h1
          · rw [if_neg h5] at h1
            by_cases h6 : wrongsIn acts = true
            · rw [if_pos h6] at h1; cases h1
            · refine ⟨by omega, by omega, by omega, by omega, by omega, by omega, fun k hk => ?_, fun l hl => ?_, by simpa using h5, by simpa using h6⟩
              · have h7 : ¬ k < 0 := fun h8 => h3 (List.any_eq_true.2 ⟨k, hk, by simpa using h8⟩)
                omega
              · have h7 : ¬ 256 < l.length := fun h8 => h4 (.inr (List.any_eq_true.2 ⟨l, hl, by simpa using h8⟩))
                omega
  · rw [if_pos h1] at h; exact absurd h h1
theorem rightB_ok {a : A} {len : Nat} (h1 : oddA a = false) (h2 : wrongA len a = false) : okA len a := by
  have h3 : rightB a.kind a.a a.b a.n len = true := by unfold wrongA at h2; simpa using h2
  have h4 : 1 ≤ a.kind ∧ a.kind ≤ 13 := by unfold oddA at h1; simp at h1; omega
  clear h1 h2
  unfold rightB btw at h3
  unfold okA
  obtain ⟨K, x, y, n⟩ := a
  dsimp only at h3 h4 ⊢
  have hk : K = 1 ∨ K = 2 ∨ K = 3 ∨ K = 4 ∨ K = 5 ∨ K = 6 ∨ K = 7 ∨ K = 8 ∨ K = 9 ∨ K = 10 ∨ K = 11 ∨ K = 12 ∨ K = 13 := by omega
  rcases hk with rfl | rfl | rfl | rfl | rfl | rfl | rfl | rfl | rfl | rfl | rfl | rfl | rfl <;> simp at h3 <;> omega
/-- A run that may be asked for begins well. -/
theorem begin_wf {acts : List (List A)} {room : Int} (h1 : acts.length ≤ 16) (h2 : 1 ≤ room) (h3 : room ≤ 16) (h4 : ∀ l ∈ acts, l.length ≤ 256) (h5 : oddsIn acts = false) (h6 : wrongsIn acts = false) : WF (begin_ acts room) 0 := by
  have hm : ∀ i, i < acts.length → acts.getD i [] ∈ acts := fun i hi => by rw [List.getD_eq_getElem?_getD, List.getElem?_eq_getElem hi]; exact List.getElem_mem hi
  refine ⟨h1, ⟨h2, h3⟩, fun i hi => h4 _ (hm i hi), fun i hi a ha => ?_, fun i hi => Nat.zero_le _, fun i hi => ⟨by show (-1 : Int) ≤ -1; omega, by show (-1 : Int) ≤ _; omega⟩, fun i hi => .inl rfl, fun c => ⟨fun i hi => (by cases hi), Nat.zero_le _⟩, fun c => Nat.zero_le _⟩
  have hl := hm i hi
  refine rightB_ok ?_ ?_
  · cases ho : oddA a with
    | false => rfl
    | true => exact absurd (List.any_eq_true.2 ⟨_, hl, List.any_eq_true.2 ⟨a, ha, ho⟩⟩) (by unfold oddsIn at h5; rw [h5]; simp)
  · cases ho : wrongA (acts.getD i []).length a with
    | false => exact ho
    | true => exact absurd (List.any_eq_true.2 ⟨_, hl, List.any_eq_true.2 ⟨a, ha, ho⟩⟩) (by unfold wrongsIn at h6; rw [h6]; simp)
/-- Picks, none of them below 0. -/
theorem row_nat {w : World} {pv : Value} {ps : List Int} (h : Row intv w pv ps) (hn : ∀ k ∈ ps, 0 ≤ k) : Row natv w pv (ps.map Int.toNat) := by
  obtain ⟨a, cap, rfl, h1, h2, h3⟩ := h
  refine ⟨a, cap, by rw [List.length_map], by rwa [List.length_map], h2, fun h0 => ?_⟩
  obtain ⟨g, off, rfl, hg, hh⟩ := h3 (by rwa [List.length_map] at h0)
  refine ⟨g, off, rfl, hg, fun i hi => ?_⟩
  have hi' : i < ps.length := by rwa [List.length_map] at hi
  have := hn _ (List.getElem_mem hi')
  rw [hh i hi', List.getElem_map]
  show some (iv ps[i]) = some (iv ((ps[i].toNat : Nat) : Int))
  rw [Int.toNat_of_nonneg this]
theorem Row.lt {α : Type} {f : α → Value} {w : World} {v : Value} {l : List α} (h : Row f w v l) (hl : 0 < l.length) : ∀ g, v.ownBlock = some g → g < w.heap.size := fun g hg => by
  obtain ⟨a, cap, rfl, h1, h2, h3⟩ := h
  obtain ⟨g2, off, rfl, hg2, _⟩ := h3 hl
  simp [Value.ownBlock] at hg
  subst hg
  exact hg2
theorem Row.below' {α : Type} {f : α → Value} {w w' : World} {v : Value} {l : List α} {B : Nat} (h : Row f w v l) (hb : Below B w w') (hB : ∀ g, v.ownBlock = some g → g < B) : Row f w' v l := by
  obtain ⟨a, cap, rfl, h1, h2, h3⟩ := h
  refine ⟨a, cap, rfl, h1, h2, fun h0 => ?_⟩
  obtain ⟨g, off, rfl, hg, hh⟩ := h3 h0
  have hgb := hB g rfl
  exact ⟨g, off, rfl, Nat.lt_of_lt_of_le hg hb.size, fun i hi => (World.cell?_of_block (w := w) (a := ⟨g, off + i, none⟩) (hb.block g hgb)).trans (hh i hi)⟩
theorem all_wf (picks : List Nat) : ∀ (k : Nat) (s : S) (L : Nat), WF s L → WF (all picks k s) (L + k) ∧ (all picks k s).n = s.n ∧ (all picks k s).trace.length ≤ s.trace.length + k
  | 0, s, L, h => ⟨h, rfl, Nat.le_refl _⟩
  | k + 1, s, L, h => by
    by_cases hr : ready s = []
    · rw [all_stop hr]
      exact ⟨h.mono (by omega), rfl, by omega⟩
    · rw [all_go hr]
      obtain ⟨hin, hhow⟩ := ready_mem (next_mem (s := s) (picks := picks) hr)
      obtain ⟨h1, h2, h3⟩ := step_ok h hin hhow
      obtain ⟨h4, h5, h6⟩ := all_wf picks k _ _ h1
      refine ⟨h4.mono (by omega), h5.trans h2, ?_⟩
      rw [h3, List.length_append] at h6
      simp at h6
      omega
theorem TasksV.here {B : Nat} {w : World} {tv : Value} {acts : List (List A)} (h : TasksV B w tv acts) : TasksV w.heap.size w tv acts := by
  obtain ⟨a, cap, h1, h2, h3, h4⟩ := h
  refine ⟨a, cap, h1, h2, h3, fun h0 => ?_⟩
  obtain ⟨g, off, h5, h6, h7, h8⟩ := h4 h0
  refine ⟨g, off, h5, h7, h7, fun i hi => ?_⟩
  obtain ⟨v, h9, a2, c2, e1, e2, e3, e4⟩ := h8 i hi
  refine ⟨v, h9, a2, c2, e1, e2, e3, fun hn => ?_⟩
  obtain ⟨g3, o3, e5, e6, e7, e8⟩ := e4 hn
  exact ⟨g3, o3, e5, e7, e7, e8⟩
end Go.Proofs.Ytompelilflckkaa
