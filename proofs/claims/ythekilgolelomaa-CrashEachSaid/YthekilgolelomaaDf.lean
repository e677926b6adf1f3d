/-
  The disk: a change of a directory.
-/
import Derived.Test.YthekilgolelomaaDe
import Derived.Maps.Own
import Derived.Maps.OwnSet
set_option linter.unusedSimpArgs false
set_option linter.unusedVariables false
namespace Go.Proofs.Ythekilgolelomaa
open Go.RowKit Go.Fl

section
variable {w : World} {b : Nat} {dir : Dir}
set_option maxRecDepth 100000 in
theorem do_cr (h : DMap w b dir) (s : Nm) (f : Nat) : Calls Try.prog 98 #[.agg #[sk s, fp f], .map (some b)] w fun e w' => e = .returned (.tuple #[]) ∧ DMap w' b (dir.put s f) ∧ Only [b] w w' := by
  have hlt := h.lt
  have hr := Blk.new w 89 #[sk s, fp f]
  have HO := Lib.hid (show Only [] w (w.alloc (.cells #[sk s, fp f] 89)) from (Only.refl _ _).alloc _)
  have HD := Lib.hid (h.only HO.out (by simp))
  have c0 := hr.cell 0
  have c1 := hr.cell 1
  simp at c0 c1
  clear h hr
  go_enter Try.func98, Try.ntmps98
  go_wp2_with (at_mapUpdate; refine wpList_dput rfl (.tmp 4) (.tmp 6) (.tmp 8) 56 rfl 9 78 Try.underlying56 Try.underlying9 rfl HD.out rfl rfl ?_)
  intro w2 hm ho hz
  have HM := Lib.hid hm
  have HO2 := Lib.hid ((HO.out.mono (by simp)).trans ho)
  clear hm ho hz
  go_wp2
  exact bodyPost_end (results_none rfl _ _ _) rfl ⟨rfl, HM.out, HO2.out⟩
set_option maxRecDepth 100000 in
theorem do_rm (h : DMap w b dir) (s : Nm) : Calls Try.prog 102 #[.agg #[sk s], .map (some b)] w fun e w' => e = .returned (.tuple #[]) ∧ DMap w' b (dir.del s) ∧ Only [b] w w' := by
  have hr := Blk.new w 95 #[sk s]
  have HO := Lib.hid (show Only [] w (w.alloc (.cells #[sk s] 95)) from (Only.refl _ _).alloc _)
  have HD := Lib.hid (h.only HO.out (by simp))
  have c0 := hr.cell 0
  simp at c0
  clear h hr
  go_enter Try.func102, Try.ntmps102
  go_wp2_with (refine wpList_ddel rfl (.tmp 4) (.tmp 6) 56 9 rfl 78 Try.underlying56 Try.underlying9 rfl HD.out rfl ?_)
  intro w2 hm ho hz
  have HM := Lib.hid hm
  have HO2 := Lib.hid ((HO.out.mono (by simp)).trans ho)
  clear hm ho hz
  go_wp2
  exact bodyPost_end (results_none rfl _ _ _) rfl ⟨rfl, HM.out, HO2.out⟩
set_option maxRecDepth 100000 in
set_option maxHeartbeats 800000 in
theorem do_rn (h : DMap w b dir) (x y : Nm) {f : Nat} (hf : dir.get x = some f) : Calls Try.prog 100 #[.agg #[sk x, sk y], .map (some b)] w fun e w' => e = .returned (.tuple #[]) ∧ DMap w' b ((dir.del x).put y f) ∧ Only [b] w w' := by
  have hr := Blk.new w 93 #[sk x, sk y]
  have HNE := Lib.hid (show w.heap.size ≠ b from fun e => by have := h.lt; omega)
  have HO := Lib.hid (show Only [] w (w.alloc (.cells #[sk x, sk y] 93)) from (Only.refl _ _).alloc _)
  have HD := Lib.hid (h.only HO.out (by simp))
  have HB := Lib.hid hr
  have hl := DMap.lookup (P := Try.prog) HD.out Try.underlying56 Try.underlying9 zero79 x
  rw [hf] at hl
  unfold optP at hl
  have c0 := hr.cell 0
  simp at c0
  clear h hr
  go_enter Try.func100, Try.ntmps100
  go_wp2_with (refine wpList_ddel rfl (.tmp 9) (.tmp 11) 56 9 rfl 78 Try.underlying56 Try.underlying9 rfl HD.out rfl ?_)
  intro w2 hm ho hz
  have HM := Lib.hid hm
  have HO2 := Lib.hid ((HO.out.mono (by simp)).trans ho)
  have HB2 := Lib.hid (HB.out.only ho (by simpa using HNE.out))
  have c1 := HB2.out.cell 1
  simp at c1
  clear hm ho hz c0 hl
  go_wp2_with (at_mapUpdate; refine wpList_dput rfl (.tmp 12) (.tmp 14) (.tmp 15) 56 rfl 9 78 Try.underlying56 Try.underlying9 rfl HM.out rfl rfl ?_)
  intro w3 hm ho hz
  have HM3 := Lib.hid hm
  have HO3 := Lib.hid (HO2.out.trans ho)
  clear hm ho hz
  go_wp2
  exact bodyPost_end (results_none rfl _ _ _) rfl ⟨rfl, HM3.out, HO3.out⟩
/-- Which method a change's 'do' is. -/
def chgF : Chg → Nat
  | .cr _ _ => 98
  | .rm _ => 102
  | .rn _ _ => 100
def chgT : Chg → Nat
  | .cr _ _ => 89
  | .rm _ => 95
  | .rn _ _ => 93
def chgA : Chg → Value
  | .cr s f => .agg #[sk s, fp f]
  | .rn a b => .agg #[sk a, sk b]
  | .rm s => .agg #[sk s]
theorem do_any (h : DMap w b dir) (c : Chg) (hok : c.ok dir) : Calls Try.prog (chgF c) #[chgA c, .map (some b)] w fun e w' => e = .returned (.tuple #[]) ∧ DMap w' b (c.do_ dir) ∧ Only [b] w w' := by
  cases c with
  | cr s f => exact do_cr h s f
  | rm s => exact do_rm h s
  | rn x y =>
    cases hg : dir.get x with
    | none =>
      have : (dir.get x).isSome = true := hok
      rw [hg] at this
      cases this
    | some f =>
      have h1 := do_rn h x y hg
      show Calls _ _ _ _ fun e w' => e = .returned (.tuple #[]) ∧ DMap w' b (match dir.get x with | some f => (dir.del x).put y f | none => dir) ∧ Only [b] w w'
      rw [hg]
      exact h1
end
end Go.Proofs.Ythekilgolelomaa
