/-
  SchedGuards in plain words: the acts, and what comes of them.
-/
import Derived.Test.YtompelilflckkaaUb
namespace Go.Proofs.Ytompelilflckkaa
open Go.RowKit Go.Fl

/-- The acts of one who panics: k: how many acts stand ahead. -/
def gActs (guarded : Bool) : Nat → List Int → List A
  | _, [] => []
  | k, n :: ns => (if guarded = true then ⟨13, 0, 0, ((k + 2 : Nat) : Int)⟩ else ⟨11, 0, 0, 0⟩) :: ⟨12, 0, 0, n⟩ :: gActs guarded (k + 2) ns
def gTask (guarded : Bool) (ns : List Int) : List A := ⟨1, 1, 0, 0⟩ :: (gActs guarded 1 ns ++ [⟨2, 1, 0, 0⟩])
def gTasks (guarded : Bool) (ns : List Int) : List (List A) := [gTask guarded ns, [⟨1, 1, 0, 0⟩]]
theorem gActs_len (guarded : Bool) : ∀ (k : Nat) (ns : List Int), (gActs guarded k ns).length = 2 * ns.length
  | _, [] => rfl
  | k, n :: ns => by
    simp only [gActs, List.length_cons, gActs_len guarded (k + 2) ns]; omega
/-- Which act stands where. -/
theorem gActs_at (guarded : Bool) : ∀ (k : Nat) (ns : List Int) (i : Nat) (h : i < ns.length),
    (gActs guarded k ns)[2 * i]? = some (if guarded = true then ⟨13, 0, 0, ((k + 2 * i + 2 : Nat) : Int)⟩ else ⟨11, 0, 0, 0⟩) ∧ (gActs guarded k ns)[2 * i + 1]? = some ⟨12, 0, 0, ns[i]⟩
  | _, [], i, h => absurd h (Nat.not_lt_zero _)
  | k, n :: ns, 0, _ => ⟨rfl, rfl⟩
  | k, n :: ns, i + 1, h => by
    have := gActs_at guarded (k + 2) ns i (by simpa using h)
    simp only [gActs, List.getElem_cons_succ]
    rw [show 2 * (i + 1) = 2 * i + 1 + 1 by omega, show 2 * i + 1 + 1 + 1 = (2 * i + 1) + 1 + 1 by omega, List.getElem?_cons_succ, List.getElem?_cons_succ, List.getElem?_cons_succ, List.getElem?_cons_succ]
    rw [show k + 2 + 2 * i + 2 = k + (2 * i + 1 + 1) + 2 by omega] at this
    exact this
end Go.Proofs.Ytompelilflckkaa
