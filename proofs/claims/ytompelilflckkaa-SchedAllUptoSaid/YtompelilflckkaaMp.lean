/-
  The scheduler: is an act right? The rest of the kinds, and all of them.
-/
import Derived.Test.YtompelilflckkaaMo
set_option linter.unusedSimpArgs false
set_option linter.unusedVariables false
namespace Go.Proofs.Ytompelilflckkaa
open Go.RowKit Go.Fl

section
variable {w : World} {a b n len : Int}
set_option maxRecDepth 100000 in
set_option maxHeartbeats 3200000 in
theorem right12 : Calls Try.prog 20 #[.agg #[iv 12, iv a, iv b, iv n], iv len] w fun e w' => e = .returned (.bool (decide (a = 0) && decide (b = 0))) ∧ Only [] w w' := by
  have hmf : ∀ (fn : Fn) (first cap : Array Value) (w : World), (Instr.makeFunc fn first cap).run Try.prog w = .ok (.func fn first cap) w := fun _ _ _ _ => rfl
  have ha0 : Blk (((w.alloc (.cells #[iv 12, iv a, iv b, iv n] 47)).alloc (.cells #[iv 0, iv a, iv b, iv n] 47)).alloc (.cells #[.bool true] 4)) w.heap.size 47 #[iv 12, iv a, iv b, iv n] := ((Blk.new _ _ _).alloc _).alloc _
  have hb0 : Blk (((w.alloc (.cells #[iv 12, iv a, iv b, iv n] 47)).alloc (.cells #[iv 0, iv a, iv b, iv n] 47)).alloc (.cells #[.bool true] 4)) (w.heap.size + 1) 47 #[iv 0, iv a, iv b, iv n] := by
    have := (Blk.new (w.alloc (.cells #[iv 12, iv a, iv b, iv n] 47)) 47 #[iv 0, iv a, iv b, iv n]).alloc (.cells #[.bool true] 4)
    simpa using this
  have hc0 : Blk (((w.alloc (.cells #[iv 12, iv a, iv b, iv n] 47)).alloc (.cells #[iv 0, iv a, iv b, iv n] 47)).alloc (.cells #[.bool true] 4)) (w.heap.size + 1 + 1) 4 #[.bool true] := by
    have := Blk.new ((w.alloc (.cells #[iv 12, iv a, iv b, iv n] 47)).alloc (.cells #[iv 0, iv a, iv b, iv n] 47)) 4 #[.bool true]
    simpa using this
  have hO0 : Only [] w (((w.alloc (.cells #[iv 12, iv a, iv b, iv n] 47)).alloc (.cells #[iv 0, iv a, iv b, iv n] 47)).alloc (.cells #[.bool true] 4)) := (((Only.refl [] w).alloc _).alloc _).alloc _
  go_enter Try.func20, Try.ntmps20
  go_wp2
  all_goals refine bodyPost_ret (results_tmp rfl _ _ _) rfl ⟨?_, by (repeat (first | with_reducible exact Only.refl _ _ | with_reducible exact Only.refl [] w | with_reducible refine Only.drew ?_ | with_reducible refine Only.drewN ?_ _ | with_reducible refine Only.alloc ?_ _ | ((with_reducible refine Only.setCell ?_ ?_ _); rotate_left; (focus (first | (left; simp; done) | (right; simp; done) | (right; simp; omega) | (right; omega))))))⟩
  all_goals simp_all
set_option maxRecDepth 100000 in
set_option maxHeartbeats 3200000 in
theorem right13 : Calls Try.prog 20 #[.agg #[iv 13, iv a, iv b, iv n], iv len] w fun e w' => e = .returned (.bool ((decide (0 ≤ n) && decide (n ≤ len)) && (decide (a = 0) && decide (b = 0)))) ∧ Only [] w w' := by
  have hmf : ∀ (fn : Fn) (first cap : Array Value) (w : World), (Instr.makeFunc fn first cap).run Try.prog w = .ok (.func fn first cap) w := fun _ _ _ _ => rfl
  have ha0 : Blk (((w.alloc (.cells #[iv 13, iv a, iv b, iv n] 47)).alloc (.cells #[iv 0, iv a, iv b, iv n] 47)).alloc (.cells #[.bool true] 4)) w.heap.size 47 #[iv 13, iv a, iv b, iv n] := ((Blk.new _ _ _).alloc _).alloc _
  have hb0 : Blk (((w.alloc (.cells #[iv 13, iv a, iv b, iv n] 47)).alloc (.cells #[iv 0, iv a, iv b, iv n] 47)).alloc (.cells #[.bool true] 4)) (w.heap.size + 1) 47 #[iv 0, iv a, iv b, iv n] := by
    have := (Blk.new (w.alloc (.cells #[iv 13, iv a, iv b, iv n] 47)) 47 #[iv 0, iv a, iv b, iv n]).alloc (.cells #[.bool true] 4)
    simpa using this
  have hc0 : Blk (((w.alloc (.cells #[iv 13, iv a, iv b, iv n] 47)).alloc (.cells #[iv 0, iv a, iv b, iv n] 47)).alloc (.cells #[.bool true] 4)) (w.heap.size + 1 + 1) 4 #[.bool true] := by
    have := Blk.new ((w.alloc (.cells #[iv 13, iv a, iv b, iv n] 47)).alloc (.cells #[iv 0, iv a, iv b, iv n] 47)) 4 #[.bool true]
    simpa using this
  have hO0 : Only [] w (((w.alloc (.cells #[iv 13, iv a, iv b, iv n] 47)).alloc (.cells #[iv 0, iv a, iv b, iv n] 47)).alloc (.cells #[.bool true] 4)) := (((Only.refl [] w).alloc _).alloc _).alloc _
  by_cases h1 : 0 ≤ n
  · by_cases h2 : n ≤ len
    · go_enter Try.func20, Try.ntmps20
      go_wp2
      all_goals refine bodyPost_ret (results_tmp rfl _ _ _) rfl ⟨?_, by (repeat (first | with_reducible exact Only.refl _ _ | with_reducible exact Only.refl [] w | with_reducible refine Only.drew ?_ | with_reducible refine Only.drewN ?_ _ | with_reducible refine Only.alloc ?_ _ | ((with_reducible refine Only.setCell ?_ ?_ _); rotate_left; (focus (first | (left; simp; done) | (right; simp; done) | (right; simp; omega) | (right; omega))))))⟩
      all_goals simp_all
    · have h3 : len < n := by omega
      rw [decide_eq_false h2, Bool.and_false, Bool.false_and]
      go_enter Try.func20, Try.ntmps20
      go_wp2
      all_goals refine bodyPost_ret (results_tmp rfl _ _ _) rfl ⟨?_, by (repeat (first | with_reducible exact Only.refl _ _ | with_reducible exact Only.refl [] w | with_reducible refine Only.drew ?_ | with_reducible refine Only.drewN ?_ _ | with_reducible refine Only.alloc ?_ _ | ((with_reducible refine Only.setCell ?_ ?_ _); rotate_left; (focus (first | (left; simp; done) | (right; simp; done) | (right; simp; omega) | (right; omega))))))⟩
      all_goals simp_all
  · have h3 : n < 0 := by omega
    rw [decide_eq_false h1, Bool.false_and, Bool.false_and]
    go_enter Try.func20, Try.ntmps20
    go_wp2
    all_goals refine bodyPost_ret (results_tmp rfl _ _ _) rfl ⟨?_, by (repeat (first | with_reducible exact Only.refl _ _ | with_reducible exact Only.refl [] w | with_reducible refine Only.drew ?_ | with_reducible refine Only.drewN ?_ _ | with_reducible refine Only.alloc ?_ _ | ((with_reducible refine Only.setCell ?_ ?_ _); rotate_left; (focus (first | (left; simp; done) | (right; simp; done) | (right; simp; omega) | (right; omega))))))⟩
    all_goals simp_all
set_option maxRecDepth 100000 in
set_option maxHeartbeats 3200000 in
theorem right10 : Calls Try.prog 20 #[.agg #[iv 10, iv a, iv b, iv n], iv len] w fun e w' => e = .returned (.bool ((btw a 8 && (decide (0 ≤ n) && decide (n ≤ 255))) && decide (b = 0))) ∧ Only [] w w' := by
  have hmf : ∀ (fn : Fn) (first cap : Array Value) (w : World), (Instr.makeFunc fn first cap).run Try.prog w = .ok (.func fn first cap) w := fun _ _ _ _ => rfl
  have ha0 : Blk (((w.alloc (.cells #[iv 10, iv a, iv b, iv n] 47)).alloc (.cells #[iv 0, iv a, iv b, iv n] 47)).alloc (.cells #[.bool true] 4)) w.heap.size 47 #[iv 10, iv a, iv b, iv n] := ((Blk.new _ _ _).alloc _).alloc _
  have hb0 : Blk (((w.alloc (.cells #[iv 10, iv a, iv b, iv n] 47)).alloc (.cells #[iv 0, iv a, iv b, iv n] 47)).alloc (.cells #[.bool true] 4)) (w.heap.size + 1) 47 #[iv 0, iv a, iv b, iv n] := by
    have := (Blk.new (w.alloc (.cells #[iv 10, iv a, iv b, iv n] 47)) 47 #[iv 0, iv a, iv b, iv n]).alloc (.cells #[.bool true] 4)
    simpa using this
  have hc0 : Blk (((w.alloc (.cells #[iv 10, iv a, iv b, iv n] 47)).alloc (.cells #[iv 0, iv a, iv b, iv n] 47)).alloc (.cells #[.bool true] 4)) (w.heap.size + 1 + 1) 4 #[.bool true] := by
    have := Blk.new ((w.alloc (.cells #[iv 10, iv a, iv b, iv n] 47)).alloc (.cells #[iv 0, iv a, iv b, iv n] 47)) 4 #[.bool true]
    simpa using this
  have hO0 : Only [] w (((w.alloc (.cells #[iv 10, iv a, iv b, iv n] 47)).alloc (.cells #[iv 0, iv a, iv b, iv n] 47)).alloc (.cells #[.bool true] 4)) := (((Only.refl [] w).alloc _).alloc _).alloc _
  have HU := Lib.hid (use_blk (k := 1) (most := 8) (cs' := #[iv 0, iv 0, iv b, iv n]) hb0 hc0 rfl rfl)
  have hng : w.heap.size + 1 ≠ w.heap.size + 1 + 1 := by omega
  cases h1 : btw a 8
  · rw [h1] at HU
    rw [Bool.false_and, Bool.false_and]
    go_enter Try.func20, Try.ntmps20
    go_wp2_with (go_at_call 34; refine HU.out.mono ?_; clear HU; rintro e w1 ⟨rfl, hB1, hC1, hO1⟩; have HO1 := Lib.hid (only2 hO0 hO1 (by omega) (by omega)); have hA1 := ha0.only hO1 (by simp <;> omega); obtain ⟨hca, hfa, hlta⟩ := hA1.facts; obtain ⟨hcb, hfb, hltb⟩ := hB1.facts; obtain ⟨hcc, hfc, hltc⟩ := hC1.facts; clear hA1 hB1 hC1 hO1 ha0 hb0 hc0 hO0)
    all_goals refine bodyPost_ret (results_tmp rfl _ _ _) rfl ⟨?_, by (repeat (first | with_reducible exact Only.refl _ _ | with_reducible exact HO1.out | with_reducible refine Only.drew ?_ | with_reducible refine Only.drewN ?_ _ | with_reducible refine Only.alloc ?_ _ | ((with_reducible refine Only.setCell ?_ ?_ _); rotate_left; (focus (first | (left; simp; done) | (right; simp; done) | (right; simp; omega) | (right; omega))))))⟩
    all_goals simp_all
  · rw [h1] at HU
    by_cases h2 : 0 ≤ n
    · by_cases h3 : n ≤ 255
      · go_enter Try.func20, Try.ntmps20
        go_wp2_with (go_at_call 34; refine HU.out.mono ?_; clear HU; rintro e w1 ⟨rfl, hB1, hC1, hO1⟩; have HO1 := Lib.hid (only2 hO0 hO1 (by omega) (by omega)); have hA1 := ha0.only hO1 (by simp <;> omega); obtain ⟨hca, hfa, hlta⟩ := hA1.facts; obtain ⟨hcb, hfb, hltb⟩ := hB1.facts; obtain ⟨hcc, hfc, hltc⟩ := hC1.facts; clear hA1 hB1 hC1 hO1 ha0 hb0 hc0 hO0)
        all_goals refine bodyPost_ret (results_tmp rfl _ _ _) rfl ⟨?_, by (repeat (first | with_reducible exact Only.refl _ _ | with_reducible exact HO1.out | with_reducible refine Only.drew ?_ | with_reducible refine Only.drewN ?_ _ | with_reducible refine Only.alloc ?_ _ | ((with_reducible refine Only.setCell ?_ ?_ _); rotate_left; (focus (first | (left; simp; done) | (right; simp; done) | (right; simp; omega) | (right; omega))))))⟩
        all_goals simp_all
      · have h4 : 255 < n := by omega
        rw [decide_eq_false h3, Bool.and_false, Bool.and_false, Bool.false_and]
        go_enter Try.func20, Try.ntmps20
        go_wp2_with (go_at_call 34; refine HU.out.mono ?_; clear HU; rintro e w1 ⟨rfl, hB1, hC1, hO1⟩; have HO1 := Lib.hid (only2 hO0 hO1 (by omega) (by omega)); have hA1 := ha0.only hO1 (by simp <;> omega); obtain ⟨hca, hfa, hlta⟩ := hA1.facts; obtain ⟨hcb, hfb, hltb⟩ := hB1.facts; obtain ⟨hcc, hfc, hltc⟩ := hC1.facts; clear hA1 hB1 hC1 hO1 ha0 hb0 hc0 hO0)
        all_goals refine bodyPost_ret (results_tmp rfl _ _ _) rfl ⟨?_, by (repeat (first | with_reducible exact Only.refl _ _ | with_reducible exact HO1.out | with_reducible refine Only.drew ?_ | with_reducible refine Only.drewN ?_ _ | with_reducible refine Only.alloc ?_ _ | ((with_reducible refine Only.setCell ?_ ?_ _); rotate_left; (focus (first | (left; simp; done) | (right; simp; done) | (right; simp; omega) | (right; omega))))))⟩
        all_goals simp_all
    · have h4 : n < 0 := by omega
      rw [decide_eq_false h2, Bool.false_and, Bool.and_false, Bool.false_and]
      go_enter Try.func20, Try.ntmps20
      go_wp2_with (go_at_call 34; refine HU.out.mono ?_; clear HU; rintro e w1 ⟨rfl, hB1, hC1, hO1⟩; have HO1 := Lib.hid (only2 hO0 hO1 (by omega) (by omega)); have hA1 := ha0.only hO1 (by simp <;> omega); obtain ⟨hca, hfa, hlta⟩ := hA1.facts; obtain ⟨hcb, hfb, hltb⟩ := hB1.facts; obtain ⟨hcc, hfc, hltc⟩ := hC1.facts; clear hA1 hB1 hC1 hO1 ha0 hb0 hc0 hO0)
      all_goals refine bodyPost_ret (results_tmp rfl _ _ _) rfl ⟨?_, by (repeat (first | with_reducible exact Only.refl _ _ | with_reducible exact HO1.out | with_reducible refine Only.drew ?_ | with_reducible refine Only.drewN ?_ _ | with_reducible refine Only.alloc ?_ _ | ((with_reducible refine Only.setCell ?_ ?_ _); rotate_left; (focus (first | (left; simp; done) | (right; simp; done) | (right; simp; omega) | (right; omega))))))⟩
      all_goals simp_all
set_option maxRecDepth 100000 in
set_option maxHeartbeats 3200000 in
theorem rightO {K : Int} (h1 : ¬ K = 1) (h2 : ¬ K = 2) (h3 : ¬ K = 3) (h4 : ¬ K = 4) (h5 : ¬ K = 5) (h6 : ¬ K = 6) (h7 : ¬ K = 7) (h8 : ¬ K = 8) (h9 : ¬ K = 9) (h10 : ¬ K = 10) (h12 : ¬ K = 12) (h13 : ¬ K = 13) :
    Calls Try.prog 20 #[.agg #[iv K, iv a, iv b, iv n], iv len] w fun e w' => e = .returned (.bool (decide (a = 0) && (decide (b = 0) && decide (n = 0)))) ∧ Only [] w w' := by
  have e : ∀ z : Int, ¬ K = z → (K == z) = false := fun z hz => by simpa using hz
  have e1 := e 1 h1
  have e2 := e 2 h2
  have e3 := e 3 h3
  have e4 := e 4 h4
  have e5 := e 5 h5
  have e6 := e 6 h6
  have e7 := e 7 h7
  have e8 := e 8 h8
  have e9 := e 9 h9
  have e10 := e 10 h10
  have e12 := e 12 h12
  have e13 := e 13 h13
  clear e h1 h2 h3 h4 h5 h6 h7 h8 h9 h10 h12 h13
  have hmf : ∀ (fn : Fn) (first cap : Array Value) (w : World), (Instr.makeFunc fn first cap).run Try.prog w = .ok (.func fn first cap) w := fun _ _ _ _ => rfl
  have ha0 : Blk (((w.alloc (.cells #[iv K, iv a, iv b, iv n] 47)).alloc (.cells #[iv 0, iv a, iv b, iv n] 47)).alloc (.cells #[.bool true] 4)) w.heap.size 47 #[iv K, iv a, iv b, iv n] := ((Blk.new _ _ _).alloc _).alloc _
  have hb0 : Blk (((w.alloc (.cells #[iv K, iv a, iv b, iv n] 47)).alloc (.cells #[iv 0, iv a, iv b, iv n] 47)).alloc (.cells #[.bool true] 4)) (w.heap.size + 1) 47 #[iv 0, iv a, iv b, iv n] := by
    have := (Blk.new (w.alloc (.cells #[iv K, iv a, iv b, iv n] 47)) 47 #[iv 0, iv a, iv b, iv n]).alloc (.cells #[.bool true] 4)
    simpa using this
  have hc0 : Blk (((w.alloc (.cells #[iv K, iv a, iv b, iv n] 47)).alloc (.cells #[iv 0, iv a, iv b, iv n] 47)).alloc (.cells #[.bool true] 4)) (w.heap.size + 1 + 1) 4 #[.bool true] := by
    have := Blk.new ((w.alloc (.cells #[iv K, iv a, iv b, iv n] 47)).alloc (.cells #[iv 0, iv a, iv b, iv n] 47)) 4 #[.bool true]
    simpa using this
  have hO0 : Only [] w (((w.alloc (.cells #[iv K, iv a, iv b, iv n] 47)).alloc (.cells #[iv 0, iv a, iv b, iv n] 47)).alloc (.cells #[.bool true] 4)) := (((Only.refl [] w).alloc _).alloc _).alloc _
  clear ha0 hb0 hc0
  go_enter Try.func20, Try.ntmps20
  go_wp2
  all_goals refine bodyPost_ret (results_tmp rfl _ _ _) rfl ⟨?_, by (repeat (first | with_reducible exact Only.refl _ _ | with_reducible exact Only.refl [] w | with_reducible refine Only.drew ?_ | with_reducible refine Only.drewN ?_ _ | with_reducible refine Only.alloc ?_ _ | ((with_reducible refine Only.setCell ?_ ?_ _); rotate_left; (focus (first | (left; simp; done) | (right; simp; done) | (right; simp; omega) | (right; omega))))))⟩
  all_goals simp_all
theorem right_ok (K : Int) : Calls Try.prog 20 #[.agg #[iv K, iv a, iv b, iv n], iv len] w fun e w' => e = .returned (.bool (rightB K a b n len)) ∧ Only [] w w' := by
  unfold rightB
  by_cases h1 : K = 1
  · subst h1; exact right1
  by_cases h2 : K = 2
  · subst h2; exact right2
  by_cases h4 : K = 4
  · subst h4; exact right4
  by_cases h5 : K = 5
  · subst h5; exact right5
  rw [if_neg (by simp [h1, h2, h4, h5])]
  by_cases h3 : K = 3
  · subst h3; exact right3
  rw [if_neg h3]
  by_cases h6 : K = 6
  · subst h6; exact right6
  rw [if_neg h6]
  by_cases h7 : K = 7
  · subst h7; exact right7
  rw [if_neg h7]
  by_cases h8 : K = 8
  · subst h8; exact right8
  rw [if_neg h8]
  by_cases h9 : K = 9
  · subst h9; exact right9
  rw [if_neg h9]
  by_cases h10 : K = 10
  · subst h10; exact right10
  rw [if_neg h10]
  by_cases h12 : K = 12
  · subst h12; exact right12
  rw [if_neg h12]
  by_cases h13 : K = 13
  · subst h13; exact right13
  rw [if_neg h13]
  exact rightO h1 h2 h3 h4 h5 h6 h7 h8 h9 h10 h12 h13
end
end Go.Proofs.Ytompelilflckkaa
