/-
  The scheduler: is an act right, kind by kind?
-/
import Derived.Test.YtompelilflckkaaMn
set_option linter.unusedSimpArgs false
set_option linter.unusedVariables false
namespace Go.Proofs.Ytompelilflckkaa
open Go.RowKit Go.Fl

section
variable {w : World} {a b n len : Int}
set_option maxRecDepth 100000 in
set_option maxHeartbeats 3200000 in
theorem right2 : Calls Try.prog 20 #[.agg #[iv 2, iv a, iv b, iv n], iv len] w fun e w' => e = .returned (.bool (btw a 4 && (decide (b = 0) && decide (n = 0)))) ∧ Only [] w w' := by
  have hmf : ∀ (fn : Fn) (first cap : Array Value) (w : World), (Instr.makeFunc fn first cap).run Try.prog w = .ok (.func fn first cap) w := fun _ _ _ _ => rfl
  have ha0 : Blk (((w.alloc (.cells #[iv 2, iv a, iv b, iv n] 47)).alloc (.cells #[iv 0, iv a, iv b, iv n] 47)).alloc (.cells #[.bool true] 4)) w.heap.size 47 #[iv 2, iv a, iv b, iv n] := ((Blk.new _ _ _).alloc _).alloc _
  have hb0 : Blk (((w.alloc (.cells #[iv 2, iv a, iv b, iv n] 47)).alloc (.cells #[iv 0, iv a, iv b, iv n] 47)).alloc (.cells #[.bool true] 4)) (w.heap.size + 1) 47 #[iv 0, iv a, iv b, iv n] := by
    have := (Blk.new (w.alloc (.cells #[iv 2, iv a, iv b, iv n] 47)) 47 #[iv 0, iv a, iv b, iv n]).alloc (.cells #[.bool true] 4)
    simpa using this
  have hc0 : Blk (((w.alloc (.cells #[iv 2, iv a, iv b, iv n] 47)).alloc (.cells #[iv 0, iv a, iv b, iv n] 47)).alloc (.cells #[.bool true] 4)) (w.heap.size + 1 + 1) 4 #[.bool true] := by
    have := Blk.new ((w.alloc (.cells #[iv 2, iv a, iv b, iv n] 47)).alloc (.cells #[iv 0, iv a, iv b, iv n] 47)) 4 #[.bool true]
    simpa using this
  have hO0 : Only [] w (((w.alloc (.cells #[iv 2, iv a, iv b, iv n] 47)).alloc (.cells #[iv 0, iv a, iv b, iv n] 47)).alloc (.cells #[.bool true] 4)) := (((Only.refl [] w).alloc _).alloc _).alloc _
  have HU := Lib.hid (use_blk (k := 1) (most := 4) (cs' := #[iv 0, iv 0, iv b, iv n]) hb0 hc0 rfl rfl)
  cases h1 : btw a 4 <;> rw [h1] at HU
  all_goals
    go_enter Try.func20, Try.ntmps20
    go_wp2_with (go_at_call 34; refine HU.out.mono ?_; clear HU; rintro e w1 ⟨rfl, hB1, hC1, hO1⟩; have HO1 := Lib.hid (only2 hO0 hO1 (by omega) (by omega)); have hA1 := ha0.only hO1 (by simp <;> omega); obtain ⟨hca, hfa, hlta⟩ := hA1.facts; obtain ⟨hcb, hfb, hltb⟩ := hB1.facts; obtain ⟨hcc, hfc, hltc⟩ := hC1.facts; clear hA1 hB1 hC1 hO1 ha0 hb0 hc0 hO0)
    all_goals refine bodyPost_ret (results_tmp rfl _ _ _) rfl ⟨?_, by (repeat (first | with_reducible exact Only.refl _ _ | with_reducible exact HO1.out | with_reducible refine Only.drew ?_ | with_reducible refine Only.drewN ?_ _ | with_reducible refine Only.alloc ?_ _ | ((with_reducible refine Only.setCell ?_ ?_ _); rotate_left; (focus (first | (left; simp; done) | (right; simp; done) | (right; simp; omega) | (right; omega))))))⟩
    all_goals simp_all
set_option maxRecDepth 100000 in
set_option maxHeartbeats 3200000 in
theorem right4 : Calls Try.prog 20 #[.agg #[iv 4, iv a, iv b, iv n], iv len] w fun e w' => e = .returned (.bool (btw a 4 && (decide (b = 0) && decide (n = 0)))) ∧ Only [] w w' := by
  have hmf : ∀ (fn : Fn) (first cap : Array Value) (w : World), (Instr.makeFunc fn first cap).run Try.prog w = .ok (.func fn first cap) w := fun _ _ _ _ => rfl
  have ha0 : Blk (((w.alloc (.cells #[iv 4, iv a, iv b, iv n] 47)).alloc (.cells #[iv 0, iv a, iv b, iv n] 47)).alloc (.cells #[.bool true] 4)) w.heap.size 47 #[iv 4, iv a, iv b, iv n] := ((Blk.new _ _ _).alloc _).alloc _
  have hb0 : Blk (((w.alloc (.cells #[iv 4, iv a, iv b, iv n] 47)).alloc (.cells #[iv 0, iv a, iv b, iv n] 47)).alloc (.cells #[.bool true] 4)) (w.heap.size + 1) 47 #[iv 0, iv a, iv b, iv n] := by
    have := (Blk.new (w.alloc (.cells #[iv 4, iv a, iv b, iv n] 47)) 47 #[iv 0, iv a, iv b, iv n]).alloc (.cells #[.bool true] 4)
    simpa using this
  have hc0 : Blk (((w.alloc (.cells #[iv 4, iv a, iv b, iv n] 47)).alloc (.cells #[iv 0, iv a, iv b, iv n] 47)).alloc (.cells #[.bool true] 4)) (w.heap.size + 1 + 1) 4 #[.bool true] := by
    have := Blk.new ((w.alloc (.cells #[iv 4, iv a, iv b, iv n] 47)).alloc (.cells #[iv 0, iv a, iv b, iv n] 47)) 4 #[.bool true]
    simpa using this
  have hO0 : Only [] w (((w.alloc (.cells #[iv 4, iv a, iv b, iv n] 47)).alloc (.cells #[iv 0, iv a, iv b, iv n] 47)).alloc (.cells #[.bool true] 4)) := (((Only.refl [] w).alloc _).alloc _).alloc _
  have HU := Lib.hid (use_blk (k := 1) (most := 4) (cs' := #[iv 0, iv 0, iv b, iv n]) hb0 hc0 rfl rfl)
  cases h1 : btw a 4 <;> rw [h1] at HU
  all_goals
    go_enter Try.func20, Try.ntmps20
    go_wp2_with (go_at_call 34; refine HU.out.mono ?_; clear HU; rintro e w1 ⟨rfl, hB1, hC1, hO1⟩; have HO1 := Lib.hid (only2 hO0 hO1 (by omega) (by omega)); have hA1 := ha0.only hO1 (by simp <;> omega); obtain ⟨hca, hfa, hlta⟩ := hA1.facts; obtain ⟨hcb, hfb, hltb⟩ := hB1.facts; obtain ⟨hcc, hfc, hltc⟩ := hC1.facts; clear hA1 hB1 hC1 hO1 ha0 hb0 hc0 hO0)
    all_goals refine bodyPost_ret (results_tmp rfl _ _ _) rfl ⟨?_, by (repeat (first | with_reducible exact Only.refl _ _ | with_reducible exact HO1.out | with_reducible refine Only.drew ?_ | with_reducible refine Only.drewN ?_ _ | with_reducible refine Only.alloc ?_ _ | ((with_reducible refine Only.setCell ?_ ?_ _); rotate_left; (focus (first | (left; simp; done) | (right; simp; done) | (right; simp; omega) | (right; omega))))))⟩
    all_goals simp_all
set_option maxRecDepth 100000 in
set_option maxHeartbeats 3200000 in
theorem right5 : Calls Try.prog 20 #[.agg #[iv 5, iv a, iv b, iv n], iv len] w fun e w' => e = .returned (.bool (btw a 4 && (decide (b = 0) && decide (n = 0)))) ∧ Only [] w w' := by
  have hmf : ∀ (fn : Fn) (first cap : Array Value) (w : World), (Instr.makeFunc fn first cap).run Try.prog w = .ok (.func fn first cap) w := fun _ _ _ _ => rfl
  have ha0 : Blk (((w.alloc (.cells #[iv 5, iv a, iv b, iv n] 47)).alloc (.cells #[iv 0, iv a, iv b, iv n] 47)).alloc (.cells #[.bool true] 4)) w.heap.size 47 #[iv 5, iv a, iv b, iv n] := ((Blk.new _ _ _).alloc _).alloc _
  have hb0 : Blk (((w.alloc (.cells #[iv 5, iv a, iv b, iv n] 47)).alloc (.cells #[iv 0, iv a, iv b, iv n] 47)).alloc (.cells #[.bool true] 4)) (w.heap.size + 1) 47 #[iv 0, iv a, iv b, iv n] := by
    have := (Blk.new (w.alloc (.cells #[iv 5, iv a, iv b, iv n] 47)) 47 #[iv 0, iv a, iv b, iv n]).alloc (.cells #[.bool true] 4)
    simpa using this
  have hc0 : Blk (((w.alloc (.cells #[iv 5, iv a, iv b, iv n] 47)).alloc (.cells #[iv 0, iv a, iv b, iv n] 47)).alloc (.cells #[.bool true] 4)) (w.heap.size + 1 + 1) 4 #[.bool true] := by
    have := Blk.new ((w.alloc (.cells #[iv 5, iv a, iv b, iv n] 47)).alloc (.cells #[iv 0, iv a, iv b, iv n] 47)) 4 #[.bool true]
    simpa using this
  have hO0 : Only [] w (((w.alloc (.cells #[iv 5, iv a, iv b, iv n] 47)).alloc (.cells #[iv 0, iv a, iv b, iv n] 47)).alloc (.cells #[.bool true] 4)) := (((Only.refl [] w).alloc _).alloc _).alloc _
  have HU := Lib.hid (use_blk (k := 1) (most := 4) (cs' := #[iv 0, iv 0, iv b, iv n]) hb0 hc0 rfl rfl)
  cases h1 : btw a 4 <;> rw [h1] at HU
  all_goals
    go_enter Try.func20, Try.ntmps20
    go_wp2_with (go_at_call 34; refine HU.out.mono ?_; clear HU; rintro e w1 ⟨rfl, hB1, hC1, hO1⟩; have HO1 := Lib.hid (only2 hO0 hO1 (by omega) (by omega)); have hA1 := ha0.only hO1 (by simp <;> omega); obtain ⟨hca, hfa, hlta⟩ := hA1.facts; obtain ⟨hcb, hfb, hltb⟩ := hB1.facts; obtain ⟨hcc, hfc, hltc⟩ := hC1.facts; clear hA1 hB1 hC1 hO1 ha0 hb0 hc0 hO0)
    all_goals refine bodyPost_ret (results_tmp rfl _ _ _) rfl ⟨?_, by (repeat (first | with_reducible exact Only.refl _ _ | with_reducible exact HO1.out | with_reducible refine Only.drew ?_ | with_reducible refine Only.drewN ?_ _ | with_reducible refine Only.alloc ?_ _ | ((with_reducible refine Only.setCell ?_ ?_ _); rotate_left; (focus (first | (left; simp; done) | (right; simp; done) | (right; simp; omega) | (right; omega))))))⟩
    all_goals simp_all
set_option maxRecDepth 100000 in
set_option maxHeartbeats 3200000 in
theorem right6 : Calls Try.prog 20 #[.agg #[iv 6, iv a, iv b, iv n], iv len] w fun e w' => e = .returned (.bool (btw a 4 && decide (b = 0))) ∧ Only [] w w' := by
  have hmf : ∀ (fn : Fn) (first cap : Array Value) (w : World), (Instr.makeFunc fn first cap).run Try.prog w = .ok (.func fn first cap) w := fun _ _ _ _ => rfl
  have ha0 : Blk (((w.alloc (.cells #[iv 6, iv a, iv b, iv n] 47)).alloc (.cells #[iv 0, iv a, iv b, iv n] 47)).alloc (.cells #[.bool true] 4)) w.heap.size 47 #[iv 6, iv a, iv b, iv n] := ((Blk.new _ _ _).alloc _).alloc _
  have hb0 : Blk (((w.alloc (.cells #[iv 6, iv a, iv b, iv n] 47)).alloc (.cells #[iv 0, iv a, iv b, iv n] 47)).alloc (.cells #[.bool true] 4)) (w.heap.size + 1) 47 #[iv 0, iv a, iv b, iv n] := by
    have := (Blk.new (w.alloc (.cells #[iv 6, iv a, iv b, iv n] 47)) 47 #[iv 0, iv a, iv b, iv n]).alloc (.cells #[.bool true] 4)
    simpa using this
  have hc0 : Blk (((w.alloc (.cells #[iv 6, iv a, iv b, iv n] 47)).alloc (.cells #[iv 0, iv a, iv b, iv n] 47)).alloc (.cells #[.bool true] 4)) (w.heap.size + 1 + 1) 4 #[.bool true] := by
    have := Blk.new ((w.alloc (.cells #[iv 6, iv a, iv b, iv n] 47)).alloc (.cells #[iv 0, iv a, iv b, iv n] 47)) 4 #[.bool true]
    simpa using this
  have hO0 : Only [] w (((w.alloc (.cells #[iv 6, iv a, iv b, iv n] 47)).alloc (.cells #[iv 0, iv a, iv b, iv n] 47)).alloc (.cells #[.bool true] 4)) := (((Only.refl [] w).alloc _).alloc _).alloc _
  have HU := Lib.hid (use_blk (k := 1) (most := 4) (cs' := #[iv 0, iv 0, iv b, iv n]) hb0 hc0 rfl rfl)
  have hng : w.heap.size + 1 ≠ w.heap.size + 1 + 1 := by omega
  cases h1 : btw a 4 <;> rw [h1] at HU
  all_goals
    go_enter Try.func20, Try.ntmps20
    go_wp2_with (go_at_call 34; refine HU.out.mono ?_; clear HU; rintro e w1 ⟨rfl, hB1, hC1, hO1⟩; have HO1 := Lib.hid (only2 hO0 hO1 (by omega) (by omega)); have hA1 := ha0.only hO1 (by simp <;> omega); obtain ⟨hca, hfa, hlta⟩ := hA1.facts; obtain ⟨hcb, hfb, hltb⟩ := hB1.facts; obtain ⟨hcc, hfc, hltc⟩ := hC1.facts; clear hA1 hB1 hC1 hO1 ha0 hb0 hc0 hO0)
    all_goals refine bodyPost_ret (results_tmp rfl _ _ _) rfl ⟨?_, HO1.out.setCell (p := ⟨w.heap.size + 1, 3, none⟩) (.inr (by simp)) _⟩
    all_goals simp_all
set_option maxRecDepth 100000 in
set_option maxHeartbeats 3200000 in
theorem right8 : Calls Try.prog 20 #[.agg #[iv 8, iv a, iv b, iv n], iv len] w fun e w' => e = .returned (.bool (btw a 8 && decide (b = 0))) ∧ Only [] w w' := by
  have hmf : ∀ (fn : Fn) (first cap : Array Value) (w : World), (Instr.makeFunc fn first cap).run Try.prog w = .ok (.func fn first cap) w := fun _ _ _ _ => rfl
  have ha0 : Blk (((w.alloc (.cells #[iv 8, iv a, iv b, iv n] 47)).alloc (.cells #[iv 0, iv a, iv b, iv n] 47)).alloc (.cells #[.bool true] 4)) w.heap.size 47 #[iv 8, iv a, iv b, iv n] := ((Blk.new _ _ _).alloc _).alloc _
  have hb0 : Blk (((w.alloc (.cells #[iv 8, iv a, iv b, iv n] 47)).alloc (.cells #[iv 0, iv a, iv b, iv n] 47)).alloc (.cells #[.bool true] 4)) (w.heap.size + 1) 47 #[iv 0, iv a, iv b, iv n] := by
    have := (Blk.new (w.alloc (.cells #[iv 8, iv a, iv b, iv n] 47)) 47 #[iv 0, iv a, iv b, iv n]).alloc (.cells #[.bool true] 4)
    simpa using this
  have hc0 : Blk (((w.alloc (.cells #[iv 8, iv a, iv b, iv n] 47)).alloc (.cells #[iv 0, iv a, iv b, iv n] 47)).alloc (.cells #[.bool true] 4)) (w.heap.size + 1 + 1) 4 #[.bool true] := by
    have := Blk.new ((w.alloc (.cells #[iv 8, iv a, iv b, iv n] 47)).alloc (.cells #[iv 0, iv a, iv b, iv n] 47)) 4 #[.bool true]
    simpa using this
  have hO0 : Only [] w (((w.alloc (.cells #[iv 8, iv a, iv b, iv n] 47)).alloc (.cells #[iv 0, iv a, iv b, iv n] 47)).alloc (.cells #[.bool true] 4)) := (((Only.refl [] w).alloc _).alloc _).alloc _
  have HU := Lib.hid (use_blk (k := 1) (most := 8) (cs' := #[iv 0, iv 0, iv b, iv n]) hb0 hc0 rfl rfl)
  have hng : w.heap.size + 1 ≠ w.heap.size + 1 + 1 := by omega
  cases h1 : btw a 8 <;> rw [h1] at HU
  all_goals
    go_enter Try.func20, Try.ntmps20
    go_wp2_with (go_at_call 34; refine HU.out.mono ?_; clear HU; rintro e w1 ⟨rfl, hB1, hC1, hO1⟩; have HO1 := Lib.hid (only2 hO0 hO1 (by omega) (by omega)); have hA1 := ha0.only hO1 (by simp <;> omega); obtain ⟨hca, hfa, hlta⟩ := hA1.facts; obtain ⟨hcb, hfb, hltb⟩ := hB1.facts; obtain ⟨hcc, hfc, hltc⟩ := hC1.facts; clear hA1 hB1 hC1 hO1 ha0 hb0 hc0 hO0)
    all_goals refine bodyPost_ret (results_tmp rfl _ _ _) rfl ⟨?_, HO1.out.setCell (p := ⟨w.heap.size + 1, 3, none⟩) (.inr (by simp)) _⟩
    all_goals simp_all
set_option maxRecDepth 100000 in
set_option maxHeartbeats 3200000 in
theorem right3 : Calls Try.prog 20 #[.agg #[iv 3, iv a, iv b, iv n], iv len] w fun e w' => e = .returned (.bool ((btw a 4 && btw b 4) && decide (n = 0))) ∧ Only [] w w' := by
  have hmf : ∀ (fn : Fn) (first cap : Array Value) (w : World), (Instr.makeFunc fn first cap).run Try.prog w = .ok (.func fn first cap) w := fun _ _ _ _ => rfl
  have ha0 : Blk (((w.alloc (.cells #[iv 3, iv a, iv b, iv n] 47)).alloc (.cells #[iv 0, iv a, iv b, iv n] 47)).alloc (.cells #[.bool true] 4)) w.heap.size 47 #[iv 3, iv a, iv b, iv n] := ((Blk.new _ _ _).alloc _).alloc _
  have hb0 : Blk (((w.alloc (.cells #[iv 3, iv a, iv b, iv n] 47)).alloc (.cells #[iv 0, iv a, iv b, iv n] 47)).alloc (.cells #[.bool true] 4)) (w.heap.size + 1) 47 #[iv 0, iv a, iv b, iv n] := by
    have := (Blk.new (w.alloc (.cells #[iv 3, iv a, iv b, iv n] 47)) 47 #[iv 0, iv a, iv b, iv n]).alloc (.cells #[.bool true] 4)
    simpa using this
  have hc0 : Blk (((w.alloc (.cells #[iv 3, iv a, iv b, iv n] 47)).alloc (.cells #[iv 0, iv a, iv b, iv n] 47)).alloc (.cells #[.bool true] 4)) (w.heap.size + 1 + 1) 4 #[.bool true] := by
    have := Blk.new ((w.alloc (.cells #[iv 3, iv a, iv b, iv n] 47)).alloc (.cells #[iv 0, iv a, iv b, iv n] 47)) 4 #[.bool true]
    simpa using this
  have hO0 : Only [] w (((w.alloc (.cells #[iv 3, iv a, iv b, iv n] 47)).alloc (.cells #[iv 0, iv a, iv b, iv n] 47)).alloc (.cells #[.bool true] 4)) := (((Only.refl [] w).alloc _).alloc _).alloc _
  have HU := Lib.hid (use_blk (k := 1) (most := 4) (cs' := #[iv 0, iv 0, iv b, iv n]) hb0 hc0 rfl rfl)
  cases h1 : btw a 4 <;> cases h2 : btw b 4 <;> rw [h1] at HU
  all_goals
    go_enter Try.func20, Try.ntmps20
    go_wp2_with (first | (go_at_call 34; refine HU.out.mono ?_; clear HU; rintro e w1 ⟨rfl, hB1, hC1, hO1⟩; have HO1 := Lib.hid (only2 hO0 hO1 (by omega) (by omega)); have hA1 := ha0.only hO1 (by simp <;> omega); obtain ⟨hca, hfa, hlta⟩ := hA1.facts; obtain ⟨hcb, hfb, hltb⟩ := hB1.facts; obtain ⟨hcc, hfc, hltc⟩ := hC1.facts; have HU2 := Lib.hid (use_blk (k := 2) (most := 4) (cs' := #[iv 0, iv 0, iv 0, iv n]) hB1 hC1 rfl rfl); rw [h2] at HU2; clear hA1 hB1 hC1 hO1 ha0 hb0 hc0 hO0) | (go_at_call 34; refine HU2.out.mono ?_; clear HU2 hca hfa hlta hcb hfb hltb hcc hfc hltc; rintro e w2 ⟨rfl, hB2, hC2, hO2⟩; have HO2 := Lib.hid (only2 HO1.out hO2 (by omega) (by omega)); obtain ⟨hcb, hfb, hltb⟩ := hB2.facts; obtain ⟨hcc, hfc, hltc⟩ := hC2.facts; clear hB2 hC2 hO2))
    all_goals refine bodyPost_ret (results_tmp rfl _ _ _) rfl ⟨?_, HO2.out⟩
    all_goals simp_all
set_option maxRecDepth 100000 in
set_option maxHeartbeats 3200000 in
theorem right7 : Calls Try.prog 20 #[.agg #[iv 7, iv a, iv b, iv n], iv len] w fun e w' => e = .returned (.bool ((btw a 4 && btw b 8) && decide (n = 0))) ∧ Only [] w w' := by
  have hmf : ∀ (fn : Fn) (first cap : Array Value) (w : World), (Instr.makeFunc fn first cap).run Try.prog w = .ok (.func fn first cap) w := fun _ _ _ _ => rfl
  have ha0 : Blk (((w.alloc (.cells #[iv 7, iv a, iv b, iv n] 47)).alloc (.cells #[iv 0, iv a, iv b, iv n] 47)).alloc (.cells #[.bool true] 4)) w.heap.size 47 #[iv 7, iv a, iv b, iv n] := ((Blk.new _ _ _).alloc _).alloc _
  have hb0 : Blk (((w.alloc (.cells #[iv 7, iv a, iv b, iv n] 47)).alloc (.cells #[iv 0, iv a, iv b, iv n] 47)).alloc (.cells #[.bool true] 4)) (w.heap.size + 1) 47 #[iv 0, iv a, iv b, iv n] := by
    have := (Blk.new (w.alloc (.cells #[iv 7, iv a, iv b, iv n] 47)) 47 #[iv 0, iv a, iv b, iv n]).alloc (.cells #[.bool true] 4)
    simpa using this
  have hc0 : Blk (((w.alloc (.cells #[iv 7, iv a, iv b, iv n] 47)).alloc (.cells #[iv 0, iv a, iv b, iv n] 47)).alloc (.cells #[.bool true] 4)) (w.heap.size + 1 + 1) 4 #[.bool true] := by
    have := Blk.new ((w.alloc (.cells #[iv 7, iv a, iv b, iv n] 47)).alloc (.cells #[iv 0, iv a, iv b, iv n] 47)) 4 #[.bool true]
    simpa using this
  have hO0 : Only [] w (((w.alloc (.cells #[iv 7, iv a, iv b, iv n] 47)).alloc (.cells #[iv 0, iv a, iv b, iv n] 47)).alloc (.cells #[.bool true] 4)) := (((Only.refl [] w).alloc _).alloc _).alloc _
  have HU := Lib.hid (use_blk (k := 1) (most := 4) (cs' := #[iv 0, iv 0, iv b, iv n]) hb0 hc0 rfl rfl)
  cases h1 : btw a 4 <;> cases h2 : btw b 8 <;> rw [h1] at HU
  all_goals
    go_enter Try.func20, Try.ntmps20
    go_wp2_with (first | (go_at_call 34; refine HU.out.mono ?_; clear HU; rintro e w1 ⟨rfl, hB1, hC1, hO1⟩; have HO1 := Lib.hid (only2 hO0 hO1 (by omega) (by omega)); have hA1 := ha0.only hO1 (by simp <;> omega); obtain ⟨hca, hfa, hlta⟩ := hA1.facts; obtain ⟨hcb, hfb, hltb⟩ := hB1.facts; obtain ⟨hcc, hfc, hltc⟩ := hC1.facts; have HU2 := Lib.hid (use_blk (k := 2) (most := 8) (cs' := #[iv 0, iv 0, iv 0, iv n]) hB1 hC1 rfl rfl); rw [h2] at HU2; clear hA1 hB1 hC1 hO1 ha0 hb0 hc0 hO0) | (go_at_call 34; refine HU2.out.mono ?_; clear HU2 hca hfa hlta hcb hfb hltb hcc hfc hltc; rintro e w2 ⟨rfl, hB2, hC2, hO2⟩; have HO2 := Lib.hid (only2 HO1.out hO2 (by omega) (by omega)); obtain ⟨hcb, hfb, hltb⟩ := hB2.facts; obtain ⟨hcc, hfc, hltc⟩ := hC2.facts; clear hB2 hC2 hO2))
    all_goals refine bodyPost_ret (results_tmp rfl _ _ _) rfl ⟨?_, HO2.out⟩
    all_goals simp_all
set_option maxRecDepth 100000 in
set_option maxHeartbeats 3200000 in
theorem right9 : Calls Try.prog 20 #[.agg #[iv 9, iv a, iv b, iv n], iv len] w fun e w' => e = .returned (.bool ((btw a 8 && btw b 8) && decide (n = 0))) ∧ Only [] w w' := by
  have hmf : ∀ (fn : Fn) (first cap : Array Value) (w : World), (Instr.makeFunc fn first cap).run Try.prog w = .ok (.func fn first cap) w := fun _ _ _ _ => rfl
  have ha0 : Blk (((w.alloc (.cells #[iv 9, iv a, iv b, iv n] 47)).alloc (.cells #[iv 0, iv a, iv b, iv n] 47)).alloc (.cells #[.bool true] 4)) w.heap.size 47 #[iv 9, iv a, iv b, iv n] := ((Blk.new _ _ _).alloc _).alloc _
  have hb0 : Blk (((w.alloc (.cells #[iv 9, iv a, iv b, iv n] 47)).alloc (.cells #[iv 0, iv a, iv b, iv n] 47)).alloc (.cells #[.bool true] 4)) (w.heap.size + 1) 47 #[iv 0, iv a, iv b, iv n] := by
    have := (Blk.new (w.alloc (.cells #[iv 9, iv a, iv b, iv n] 47)) 47 #[iv 0, iv a, iv b, iv n]).alloc (.cells #[.bool true] 4)
    simpa using this
  have hc0 : Blk (((w.alloc (.cells #[iv 9, iv a, iv b, iv n] 47)).alloc (.cells #[iv 0, iv a, iv b, iv n] 47)).alloc (.cells #[.bool true] 4)) (w.heap.size + 1 + 1) 4 #[.bool true] := by
    have := Blk.new ((w.alloc (.cells #[iv 9, iv a, iv b, iv n] 47)).alloc (.cells #[iv 0, iv a, iv b, iv n] 47)) 4 #[.bool true]
    simpa using this
  have hO0 : Only [] w (((w.alloc (.cells #[iv 9, iv a, iv b, iv n] 47)).alloc (.cells #[iv 0, iv a, iv b, iv n] 47)).alloc (.cells #[.bool true] 4)) := (((Only.refl [] w).alloc _).alloc _).alloc _
  have HU := Lib.hid (use_blk (k := 1) (most := 8) (cs' := #[iv 0, iv 0, iv b, iv n]) hb0 hc0 rfl rfl)
  cases h1 : btw a 8 <;> cases h2 : btw b 8 <;> rw [h1] at HU
  all_goals
    go_enter Try.func20, Try.ntmps20
    go_wp2_with (first | (go_at_call 34; refine HU.out.mono ?_; clear HU; rintro e w1 ⟨rfl, hB1, hC1, hO1⟩; have HO1 := Lib.hid (only2 hO0 hO1 (by omega) (by omega)); have hA1 := ha0.only hO1 (by simp <;> omega); obtain ⟨hca, hfa, hlta⟩ := hA1.facts; obtain ⟨hcb, hfb, hltb⟩ := hB1.facts; obtain ⟨hcc, hfc, hltc⟩ := hC1.facts; have HU2 := Lib.hid (use_blk (k := 2) (most := 8) (cs' := #[iv 0, iv 0, iv 0, iv n]) hB1 hC1 rfl rfl); rw [h2] at HU2; clear hA1 hB1 hC1 hO1 ha0 hb0 hc0 hO0) | (go_at_call 34; refine HU2.out.mono ?_; clear HU2 hca hfa hlta hcb hfb hltb hcc hfc hltc; rintro e w2 ⟨rfl, hB2, hC2, hO2⟩; have HO2 := Lib.hid (only2 HO1.out hO2 (by omega) (by omega)); obtain ⟨hcb, hfb, hltb⟩ := hB2.facts; obtain ⟨hcc, hfc, hltc⟩ := hC2.facts; clear hB2 hC2 hO2))
    all_goals refine bodyPost_ret (results_tmp rfl _ _ _) rfl ⟨?_, HO2.out⟩
    all_goals simp_all
end
end Go.Proofs.Ytompelilflckkaa
