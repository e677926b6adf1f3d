/-
  The scheduler: a wait's other ends.
-/
import Derived.Test.YtompelilflckkaaSg
namespace Go.Proofs.Ytompelilflckkaa
open Go.RowKit Go.Fl

set_option maxRecDepth 100000 in
set_option maxHeartbeats 3200000 in
theorem wait_no {w : World} {base r : Nat} {f : Nat → Value} {b : Nat → Nat} {s : S} {i x y : Nat} {n : Int} (h : RS w base r f b s) (hi : i < s.n) (hy : y < 4) (hw0 : (s.ts i).wait = 0) (hl : ¬ s.locks y = i) :
    Calls Try.prog 48 #[.pointer (some ⟨r, 0, none⟩), iv i, .pointer (some ⟨b i, 0, none⟩), .agg #[iv 3, iv x, iv y, iv n]] w fun e w' => e = .panicked [{ v := boomV (-1), recovered := false }] ∧
      (∃ f', RS w' base r f' b s) ∧ Only [] w w' := by
  obtain ⟨h1, b1⟩ := h.only0 ((Only.refl [] w).alloc (.cells #[iv 3, iv x, iv y, iv n] 47))
  have hF := Lib.hid (free_no h1 hy hl)
  have hbx : Blk (w.alloc (.cells #[iv 3, iv x, iv y, iv n] 47)) w.heap.size 47 #[iv 3, iv x, iv y, iv n] := Blk.new _ _ _
  obtain ⟨v, hB, _⟩ := h1.task i hi
  obtain ⟨hcell, hfr, hlt⟩ := hB.facts
  rw [hw0] at hcell
  have H1 := Lib.hid h1
  clear hB h1 h
  go_enter Try.func48, Try.ntmps48
  go_wp2_with fail
  refine hF.out.mono ?_
  clear hF
  rintro e w2 ⟨rfl, hw2⟩
  subst hw2
  go_wp2
  exact ⟨rfl, rfl, ⟨_, H1.out⟩, (Only.refl [] w).alloc _⟩
set_option maxRecDepth 100000 in
set_option maxHeartbeats 3200000 in
theorem wait_two {w : World} {base r : Nat} {f : Nat → Value} {b : Nat → Nat} {s : S} {i x y : Nat} {n : Int} (h : RS w base r f b s) (hi : i < s.n) (hy : y < 4) (hw0 : (s.ts i).wait = 2) :
    Calls Try.prog 48 #[.pointer (some ⟨r, 0, none⟩), iv i, .pointer (some ⟨b i, 0, none⟩), .agg #[iv 3, iv x, iv y, iv n]] w fun e w' => e = .returned (.bool true) ∧
      (∃ f', RS w' base r f' b ((s.setT i { s.ts i with wait := 0 }).setLock y i)) ∧ Below base w w' := by
  obtain ⟨h1, b1⟩ := h.only0 ((Only.refl [] w).alloc (.cells #[iv 3, iv x, iv y, iv n] 47))
  have hbx : Blk (w.alloc (.cells #[iv 3, iv x, iv y, iv n] 47)) w.heap.size 47 #[iv 3, iv x, iv y, iv n] := Blk.new _ _ _
  have hnr : w.heap.size ≠ r := fun e => by have := h.lt; omega
  have hyz : (y : Int) < 4 := by omega
  obtain ⟨v, hB, _⟩ := h1.task i hi
  obtain ⟨hcell, hfr, hlt⟩ := hB.facts
  rw [hw0] at hcell
  have hne : w.heap.size ≠ b i := fun e => by have := (e ▸ hbx : Blk (w.alloc (.cells #[iv 3, iv x, iv y, iv n] 47)) (b i) 47 _).ty_eq hB; cases this
  obtain ⟨h3, b3⟩ := h1.setT2 hi (j := 3) (u := iv 0) (t := { s.ts i with wait := 0 }) rfl rfl (fun _ => rfl)
  have HX3 := Lib.hid (hbx.far (p := ⟨b i, 3, none⟩) hne (iv 0))
  have hcx3 := HX3.out.cell
  have cl := h3.cLock hy
  have hlr := h3.lt
  have hfr3 := h3.rc.blk.frozen
  have H3 := Lib.hid h3
  clear hB h1 h h3
  go_enter Try.func48, Try.ntmps48
  go_wp2
  generalize (w.alloc (.cells #[.int .i64 3, .int .i64 x, .int .i64 y, .int .i64 n] 47)).setCell ⟨b i, 3, none⟩ (.int .i64 0) = w3 at *
  refine Lex.wp_region_text (by kernel_rfl) (by kernel_rfl) ?_
  go_wp2
  refine Lex.sq_done (by rfl) ?_
  go_wp2
  obtain ⟨h4, b4⟩ := H3.out.lock hy i
  obtain ⟨h5, b5⟩ := h4.only0 (Only.refl [] _).drew
  exact bodyPost_ret (results_tmp rfl _ _ _) rfl ⟨rfl, ⟨_, h5⟩, ((b1.trans b3).trans b4).trans b5⟩
end Go.Proofs.Ytompelilflckkaa
