/-
  The disk: on, find, befall.
-/
import Derived.Test.YthekilgolelomaaDb
set_option linter.unusedSimpArgs false
set_option linter.unusedVariables false
namespace Go.Proofs.Ythekilgolelomaa
open Go.RowKit Go.Fl

section
variable {w : World} {F : Nat → Prop} {d : Nat} {p : PD} {nb lb : Nat} {pv fv : Value}
set_option maxRecDepth 100000 in
theorem on_ok (h : DM w F d p nb lb pv fv) : Calls Try.prog 37 #[cp d] w fun e w' => e = .returned (.bool p.up) ∧ w' = w := by
  have x0 := h.blk.cell 0
  have x1 := h.blk.cell 1
  have xl := h.blk.lt
  simp [dcells] at x0 x1
  clear h
  go_enter Try.func37, Try.ntmps37
  go_wp2
  exact bodyPost_ret (results_tmp rfl _ _ _) rfl ⟨rfl, rfl⟩
/-- The file with a name; else why there is none. -/
def findR (p : PD) (s : Nm) : Option Nat × Int :=
  if p.up = true then if mayB s = true then match p.now.get s with
    | some f => (some f, 0)
    | none => (none, 6) else (none, 24) else (none, 22)
theorem zero79 : (Try.prog.info? 78).bind (·.zero) = some (.pointer none) := by kernel_rfl
set_option maxRecDepth 100000 in
set_option maxHeartbeats 1600000 in
theorem find_ok (h : DM w F d p nb lb pv fv) (s : Nm) : Calls Try.prog 30 #[cp d, sk s] w fun e w' => e = .returned (.tuple #[optP (findR p s).1, iv (findR p s).2]) ∧ w' = w := by
  have HT := Lib.hid (on_ok h)
  have HM := Lib.hid (may_ok s w)
  have x3 := h.blk.cell 3
  have xl := h.blk.lt
  simp [dcells] at x3
  have hl := DMap.lookup (P := Try.prog) h.now Try.underlying56 Try.underlying9 zero79 s
  unfold findR
  clear h
  cases hu : p.up
  · rw [hu] at HT
    rw [if_neg (by simp)]
    clear hl hu
    go_enter Try.func30, Try.ntmps30
    go_wp2_with fail
    refine HT.out.mono ?_
    clear HT
    rintro e w1 ⟨rfl, rfl⟩
    go_wp2
    exact bodyPost_ret (results2 rfl (res_tmp rfl) (res_tmp rfl)) rfl ⟨rfl, rfl⟩
  rw [hu] at HT
  rw [if_pos rfl]
  cases hm : mayB s
  · rw [hm] at HM
    rw [if_neg (by simp)]
    clear hl hu hm
    go_enter Try.func30, Try.ntmps30
    go_wp2_with fail
    refine HT.out.mono ?_
    clear HT
    rintro e w1 ⟨rfl, rfl⟩
    go_wp2_with fail
    refine HM.out.mono ?_
    clear HM
    rintro e w1 ⟨rfl, rfl⟩
    go_wp2
    exact bodyPost_ret (results2 rfl (res_tmp rfl) (res_tmp rfl)) rfl ⟨rfl, rfl⟩
  rw [hm] at HM
  rw [if_pos rfl]
  cases hg : p.now.get s with
  | none =>
    rw [hg] at hl
    unfold optP at hl
    clear hu hm hg
    go_enter Try.func30, Try.ntmps30
    go_wp2_with fail
    refine HT.out.mono ?_
    clear HT
    rintro e w1 ⟨rfl, rfl⟩
    go_wp2_with fail
    refine HM.out.mono ?_
    clear HM
    rintro e w1 ⟨rfl, rfl⟩
    go_wp2
    exact bodyPost_ret (results2 rfl (res_tmp rfl) (res_tmp rfl)) rfl ⟨rfl, rfl⟩
  | some f =>
    rw [hg] at hl
    unfold optP at hl
    clear hu hm hg
    go_enter Try.func30, Try.ntmps30
    go_wp2_with fail
    refine HT.out.mono ?_
    clear HT
    rintro e w1 ⟨rfl, rfl⟩
    go_wp2_with fail
    refine HM.out.mono ?_
    clear HM
    rintro e w1 ⟨rfl, rfl⟩
    go_wp2
    exact bodyPost_ret (results2 rfl (res_tmp rfl) (res_tmp rfl)) rfl ⟨rfl, rfl⟩
end
end Go.Proofs.Ythekilgolelomaa
