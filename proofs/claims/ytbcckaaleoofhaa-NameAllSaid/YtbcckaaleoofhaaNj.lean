/-
  slices.Compact of three sorted texts.
-/
import Derived.Test.YtbcckaaleoofhaaNi
import Derived.Test.YtbcckaaleoofhaaCuts
import Derived.OwnWalk
namespace Go.Proofs.Ytbcckaaleoofhaa
open Go.RowKit Go.Fl

theorem info9 : (Try.prog.info? 9).map (fun i => (i.zero, i.size, i.bytes)) = some (some (.string ⟨#[]⟩), 1, 16) := by kernel_rfl
theorem zero9 : (Builtin.zeroCells (Value.string ⟨#[]⟩).cells 1).toList = [.string ⟨#[]⟩] := by kernel_rfl

set_option maxRecDepth 100000 in
set_option maxHeartbeats 1600000 in
theorem compact_ok {g o c : Nat} (w : World) (h : Sl w 9 1 (.slice (some ⟨g, o, none⟩) 3 c) 3 [tA, tB, tB]) :
    Calls Try.prog 23 #[.slice (some ⟨g, o, none⟩) 3 c] w fun e w' => e = .returned (.slice (some ⟨g, o, none⟩) 2 c) ∧ Only [g] w w' := by
  obtain ⟨j9, si, sz0, sz1, sz2⟩ := info_parts info9
  have H := Lib.hid h
  clear h
  obtain ⟨_, _, _, hv, hg, hcap, _, hcc, hf⟩ := H.out.form (by omega)
  injection hv with e1 _ e3
  simp only [Option.some.injEq, Addr.mk.injEq, and_true] at e1
  obtain ⟨rfl, rfl⟩ := e1
  subst e3
  have c0 : w.cell? ⟨g, o, none⟩ = some tA := hcc 0 (by omega)
  have c1 : w.cell? ⟨g, o + 1, none⟩ = some tB := hcc 1 (by omega)
  have c2 : w.cell? ⟨g, o + 2, none⟩ = some tB := hcc 2 (by omega)
  have HF := Lib.hid (H.out.front (k := 2) (cap2 := c) (by omega) (by omega) (Nat.le_refl _))
  clear hcc
  go_enter Try.func23, Try.ntmps23
  go_wp2
  refine wp_loop_rounds 2 ?_
  rw [rounds_succ]
  go_wp2
  go_quiet (fail)
  go_wp2
  rw [rounds_succ]
  go_wp2
  go_quiet (fail)
  go_wp2
  refine wp_loop_rounds 1 ?_
  rw [rounds_succ]
  go_wp2_with (refine wpList_clear_tail rfl (.tmp 56) 22 rfl 9 j9 _ 1 Try.underlying22 si sz0 0 rfl (HF.out.drewN _) rfl _ zero9 rfl (by simp [Value.oneCell']) (by omega) ?_)
  intro w2 _ hO2
  have HO2 := Lib.hid (((Only.refl [g] w).drewN _).trans hO2)
  clear hO2
  go_wp2
  exact bodyPost_ret (results_tmp rfl _ _ _) rfl ⟨rfl, HO2.out⟩
end Go.Proofs.Ytbcckaaleoofhaa
