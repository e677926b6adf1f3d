/-
  SchedGuards in plain words: guarded, a round.
-/
import Derived.Test.YtompelilflckkaaVa
namespace Go.Proofs.Ytompelilflckkaa
open Go.RowKit Go.Fl

def t1G : T := ⟨[⟨1, 1, 0, 0⟩], 0, -1, 0, false, 0⟩
theorem gTask_len (g : Bool) (ns : List Int) : (gTask g ns).length = 2 * ns.length + 2 := by
  unfold gTask; simp [gActs_len]
theorem gTask_at (g : Bool) (ns : List Int) {i : Nat} (h : i < ns.length) :
    (gTask g ns).getD (1 + 2 * i) A.none = (if g = true then ⟨13, 0, 0, ((2 * i + 3 : Nat) : Int)⟩ else ⟨11, 0, 0, 0⟩) ∧ (gTask g ns).getD (2 + 2 * i) A.none = ⟨12, 0, 0, ns[i]⟩ := by
  obtain ⟨h1, h2⟩ := gActs_at g 1 ns i h
  have hl := gActs_len g 1 ns
  unfold gTask
  rw [List.getD_eq_getElem?_getD, List.getD_eq_getElem?_getD, show 1 + 2 * i = 2 * i + 1 by omega, show 2 + 2 * i = 2 * i + 1 + 1 by omega, List.getElem?_cons_succ, List.getElem?_cons_succ, List.getElem?_append_left (by omega), List.getElem?_append_left (by omega), h1, h2]
  rw [show 1 + 2 * i + 2 = 2 * i + 3 by omega]
  exact ⟨rfl, rfl⟩
theorem gTask_end (g : Bool) (ns : List Int) : (gTask g ns).getD (1 + 2 * ns.length) A.none = ⟨2, 1, 0, 0⟩ := by
  have hl := gActs_len g 1 ns
  unfold gTask
  rw [List.getD_eq_getElem?_getD, show 1 + 2 * ns.length = 2 * ns.length + 1 by omega, List.getElem?_cons_succ, List.getElem?_append_right (by omega), hl, Nat.sub_self]
  rfl
/-- Of two tasks the first alone is ready. -/
theorem ready_first {s : S} (hn : s.n = 2) (h0 : how s (s.ts 0) = 3) (h1 : how s (s.ts 1) ≠ 3) : ready s = [0] := by
  unfold ready
  rw [hn, show List.range 2 = [0, 1] from rfl]
  simp [h0, h1]
theorem ready_second {s : S} (hn : s.n = 2) (h0 : how s (s.ts 0) ≠ 3) (h1 : how s (s.ts 1) = 3) : ready s = [1] := by
  unfold ready
  rw [hn, show List.range 2 = [0, 1] from rfl]
  simp [h0, h1]
theorem ready_none {s : S} (hn : s.n = 2) (h0 : how s (s.ts 0) ≠ 3) (h1 : how s (s.ts 1) ≠ 3) : ready s = [] := by
  unfold ready
  rw [hn, show List.range 2 = [0, 1] from rfl]
  simp [h0, h1]
theorem next_one (s : S) (i : Nat) (picks : List Nat) : next s [i] picks = i := by
  have := next_mem (s := s) (l := [i]) (picks := picks) (by simp)
  simpa using this
end Go.Proofs.Ytompelilflckkaa
