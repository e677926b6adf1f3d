/-
  The scheduler: what is deferred behind a step.
-/
import Derived.Test.YtompelilflckkaaSo
import Derived.Tactics2
import Derived.Defers
import Derived.Recover
import Derived.Laws.Pointers
namespace Go.Proofs.Ytompelilflckkaa
open Go.RowKit Go.Fl

theorem fr19 (a b x : Value) : (#[a, b] ++ ((Array.replicate 19 undef).setIfInBounds 3 x).setIfInBounds 0 x : Array Value) = #[a, b, x, undef, undef, x, undef, undef, undef, undef, undef, undef, undef, undef, undef, undef, undef, undef, undef, undef, undef] := by
  apply Array.ext'
  simp [List.replicate]
theorem assert95 (v : Value) (w : World) : (Instr.typeAssert (.iface 95 v) 20 95 true).run Try.prog w = .ok (.tuple #[v, .bool true]) w := by
  simp [Instr.typeAssert, run_underlying Try.underlying95]
set_option maxRecDepth 100000 in
theorem catch_idle (gr gt : Nat) (w : World) :
    CallsD Try.prog 44 #[.pointer (some ⟨gr, 0, none⟩), .pointer (some ⟨gt, 0, none⟩)] .returning w fun e u' w' => e = .returned (.tuple #[]) ∧ u' = .returning ∧ w' = w := by
  refine callsD_of_wpS Try.func44 rfl fun c₀ cs hu => ?_
  apply wpS_seq
  apply wpS_region
  simp [wpOpsS, go_sem, recoverD, hu, Try.ntmps44, Exit.thenS]
  rw [fr19]
  refine wpS_of_wp ?_
  go_wp2
  cases c₀
  simp_all [bodyPostS, results, Try.results44]
set_option maxRecDepth 100000 in
set_option maxHeartbeats 1600000 in
theorem catch_boom {w : World} {base r : Nat} {f : Nat → Value} {b : Nat → Nat} {s : S} {i L gr gt : Nat} (n : Int) (h : RS w base r f b s) (hw : WF s L) (hi : i < s.n) (hgr : Blk w gr 71 #[.pointer (some ⟨r, 0, none⟩)]) (hgt : Blk w gt 77 #[.pointer (some ⟨b i, 0, none⟩)]) :
    CallsD Try.prog 44 #[.pointer (some ⟨gr, 0, none⟩), .pointer (some ⟨gt, 0, none⟩)] (.panicking [{ v := boomV n, recovered := false }]) w fun e u' w' => e = .returned (.tuple #[]) ∧ u' = .panicking [{ v := boomV n, recovered := true }] ∧ (∃ f', RS w' base r f' b (caught s i n)) ∧ Below base w w' := by
  refine callsD_of_wpS Try.func44 rfl fun c₀ cs hu => ?_
  apply wpS_seq
  apply wpS_region
  simp [wpOpsS, go_sem, recoverD, hu, Try.ntmps44, Exit.thenS, boomV]
  rw [fr19]
  refine wpS_of_wp ?_
  obtain ⟨hcr, _, hlr⟩ := hgr.facts
  obtain ⟨hct, _, hlt⟩ := hgt.facts
  obtain ⟨h1, b1⟩ := h.only0 ((Only.refl [] w).alloc (.cells #[iv n] 95))
  have hC := Lib.hid (caught_ok' h1 hi (hw.guard i hi).1 n)
  have hta := assert95
  clear h h1
  go_wp2_with fail
  refine hC.out.mono ?_
  clear hC
  rintro e w2 ⟨rfl, hR, hB⟩
  have HR := Lib.hid hR
  have HB := Lib.hid (b1.trans hB)
  clear hR hB b1
  go_wp2
  simp [bodyPostS, results, Try.results44]
  exact ⟨HR.out, HB.out⟩
end Go.Proofs.Ytompelilflckkaa
