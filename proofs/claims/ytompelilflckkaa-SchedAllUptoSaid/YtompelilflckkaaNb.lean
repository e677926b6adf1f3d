/-
  The document's own run: is an act right?
-/
import Derived.Test.YtompelilflckkaaMp
set_option linter.unusedSimpArgs false
set_option linter.unusedVariables false
namespace Go.Proofs.Ytompelilflckkaa
open Go.RowKit Go.Fl

theorem ret_bool {p q : Bool} (h : p = true ↔ q = true) : (Ending.returned (.bool p) : Ending) = .returned (.bool q) := by
  have : p = q := by cases p <;> cases q <;> simp_all
  rw [this]
section
variable {w : World} {a b n len : Int}
theorem rb1 : rightB 1 a b n len = true ↔ (0 ≤ a ∧ a < 4) ∧ b = 0 ∧ n = 0 := by
  unfold rightB btw
  simp
set_option maxRecDepth 100000 in
set_option maxHeartbeats 3200000 in
theorem fields1 : Calls Try.prog 21 #[.agg #[iv 1, iv a, iv b, iv n], iv len] w fun e w' => e = .returned (.bool (rightB 1 a b n len)) ∧ Only [] w w' := by
  go_enter Try.func21, Try.ntmps21
  go_wp2
  all_goals refine bodyPost_ret (results_tmp rfl _ _ _) rfl ⟨?_, by (repeat (first | with_reducible exact Only.refl _ _ | with_reducible exact Only.refl [] w | with_reducible refine Only.drew ?_ | with_reducible refine Only.drewN ?_ _ | with_reducible refine Only.alloc ?_ _ | ((with_reducible refine Only.setCell ?_ ?_ _); rotate_left; (focus (first | (left; simp; done) | (right; simp; done) | (right; simp; omega) | (right; omega))))))⟩
  all_goals refine ret_bool ?_
  all_goals rw [rb1]
  all_goals (first | (simp; done) | (simp; omega) | omega)
theorem rb2 : rightB 2 a b n len = true ↔ (0 ≤ a ∧ a < 4) ∧ b = 0 ∧ n = 0 := by
  unfold rightB btw
  simp
set_option maxRecDepth 100000 in
set_option maxHeartbeats 3200000 in
theorem fields2 : Calls Try.prog 21 #[.agg #[iv 2, iv a, iv b, iv n], iv len] w fun e w' => e = .returned (.bool (rightB 2 a b n len)) ∧ Only [] w w' := by
  go_enter Try.func21, Try.ntmps21
  go_wp2
  all_goals refine bodyPost_ret (results_tmp rfl _ _ _) rfl ⟨?_, by (repeat (first | with_reducible exact Only.refl _ _ | with_reducible exact Only.refl [] w | with_reducible refine Only.drew ?_ | with_reducible refine Only.drewN ?_ _ | with_reducible refine Only.alloc ?_ _ | ((with_reducible refine Only.setCell ?_ ?_ _); rotate_left; (focus (first | (left; simp; done) | (right; simp; done) | (right; simp; omega) | (right; omega))))))⟩
  all_goals refine ret_bool ?_
  all_goals rw [rb2]
  all_goals (first | (simp; done) | (simp; omega) | omega)
theorem rb3 : rightB 3 a b n len = true ↔ ((0 ≤ a ∧ a < 4) ∧ 0 ≤ b ∧ b < 4) ∧ n = 0 := by
  unfold rightB btw
  simp
set_option maxRecDepth 100000 in
set_option maxHeartbeats 3200000 in
theorem fields3 : Calls Try.prog 21 #[.agg #[iv 3, iv a, iv b, iv n], iv len] w fun e w' => e = .returned (.bool (rightB 3 a b n len)) ∧ Only [] w w' := by
  go_enter Try.func21, Try.ntmps21
  go_wp2
  all_goals refine bodyPost_ret (results_tmp rfl _ _ _) rfl ⟨?_, by (repeat (first | with_reducible exact Only.refl _ _ | with_reducible exact Only.refl [] w | with_reducible refine Only.drew ?_ | with_reducible refine Only.drewN ?_ _ | with_reducible refine Only.alloc ?_ _ | ((with_reducible refine Only.setCell ?_ ?_ _); rotate_left; (focus (first | (left; simp; done) | (right; simp; done) | (right; simp; omega) | (right; omega))))))⟩
  all_goals refine ret_bool ?_
  all_goals rw [rb3]
  all_goals (first | (simp; done) | (simp; omega) | omega)
theorem rb4 : rightB 4 a b n len = true ↔ (0 ≤ a ∧ a < 4) ∧ b = 0 ∧ n = 0 := by
  unfold rightB btw
  simp
set_option maxRecDepth 100000 in
set_option maxHeartbeats 3200000 in
theorem fields4 : Calls Try.prog 21 #[.agg #[iv 4, iv a, iv b, iv n], iv len] w fun e w' => e = .returned (.bool (rightB 4 a b n len)) ∧ Only [] w w' := by
  go_enter Try.func21, Try.ntmps21
  go_wp2
  all_goals refine bodyPost_ret (results_tmp rfl _ _ _) rfl ⟨?_, by (repeat (first | with_reducible exact Only.refl _ _ | with_reducible exact Only.refl [] w | with_reducible refine Only.drew ?_ | with_reducible refine Only.drewN ?_ _ | with_reducible refine Only.alloc ?_ _ | ((with_reducible refine Only.setCell ?_ ?_ _); rotate_left; (focus (first | (left; simp; done) | (right; simp; done) | (right; simp; omega) | (right; omega))))))⟩
  all_goals refine ret_bool ?_
  all_goals rw [rb4]
  all_goals (first | (simp; done) | (simp; omega) | omega)
theorem rb5 : rightB 5 a b n len = true ↔ (0 ≤ a ∧ a < 4) ∧ b = 0 ∧ n = 0 := by
  unfold rightB btw
  simp
set_option maxRecDepth 100000 in
set_option maxHeartbeats 3200000 in
theorem fields5 : Calls Try.prog 21 #[.agg #[iv 5, iv a, iv b, iv n], iv len] w fun e w' => e = .returned (.bool (rightB 5 a b n len)) ∧ Only [] w w' := by
  go_enter Try.func21, Try.ntmps21
  go_wp2
  all_goals refine bodyPost_ret (results_tmp rfl _ _ _) rfl ⟨?_, by (repeat (first | with_reducible exact Only.refl _ _ | with_reducible exact Only.refl [] w | with_reducible refine Only.drew ?_ | with_reducible refine Only.drewN ?_ _ | with_reducible refine Only.alloc ?_ _ | ((with_reducible refine Only.setCell ?_ ?_ _); rotate_left; (focus (first | (left; simp; done) | (right; simp; done) | (right; simp; omega) | (right; omega))))))⟩
  all_goals refine ret_bool ?_
  all_goals rw [rb5]
  all_goals (first | (simp; done) | (simp; omega) | omega)
theorem rb6 : rightB 6 a b n len = true ↔ (0 ≤ a ∧ a < 4) ∧ b = 0 := by
  unfold rightB btw
  simp
set_option maxRecDepth 100000 in
set_option maxHeartbeats 3200000 in
theorem fields6 : Calls Try.prog 21 #[.agg #[iv 6, iv a, iv b, iv n], iv len] w fun e w' => e = .returned (.bool (rightB 6 a b n len)) ∧ Only [] w w' := by
  go_enter Try.func21, Try.ntmps21
  go_wp2
  all_goals refine bodyPost_ret (results_tmp rfl _ _ _) rfl ⟨?_, by (repeat (first | with_reducible exact Only.refl _ _ | with_reducible exact Only.refl [] w | with_reducible refine Only.drew ?_ | with_reducible refine Only.drewN ?_ _ | with_reducible refine Only.alloc ?_ _ | ((with_reducible refine Only.setCell ?_ ?_ _); rotate_left; (focus (first | (left; simp; done) | (right; simp; done) | (right; simp; omega) | (right; omega))))))⟩
  all_goals refine ret_bool ?_
  all_goals rw [rb6]
  all_goals (first | (simp; done) | (simp; omega) | omega)
theorem rb7 : rightB 7 a b n len = true ↔ ((0 ≤ a ∧ a < 4) ∧ 0 ≤ b ∧ b < 8) ∧ n = 0 := by
  unfold rightB btw
  simp
set_option maxRecDepth 100000 in
set_option maxHeartbeats 3200000 in
theorem fields7 : Calls Try.prog 21 #[.agg #[iv 7, iv a, iv b, iv n], iv len] w fun e w' => e = .returned (.bool (rightB 7 a b n len)) ∧ Only [] w w' := by
  go_enter Try.func21, Try.ntmps21
  go_wp2
  all_goals refine bodyPost_ret (results_tmp rfl _ _ _) rfl ⟨?_, by (repeat (first | with_reducible exact Only.refl _ _ | with_reducible exact Only.refl [] w | with_reducible refine Only.drew ?_ | with_reducible refine Only.drewN ?_ _ | with_reducible refine Only.alloc ?_ _ | ((with_reducible refine Only.setCell ?_ ?_ _); rotate_left; (focus (first | (left; simp; done) | (right; simp; done) | (right; simp; omega) | (right; omega))))))⟩
  all_goals refine ret_bool ?_
  all_goals rw [rb7]
  all_goals (first | (simp; done) | (simp; omega) | omega)
theorem rb8 : rightB 8 a b n len = true ↔ (0 ≤ a ∧ a < 8) ∧ b = 0 := by
  unfold rightB btw
  simp
set_option maxRecDepth 100000 in
set_option maxHeartbeats 3200000 in
theorem fields8 : Calls Try.prog 21 #[.agg #[iv 8, iv a, iv b, iv n], iv len] w fun e w' => e = .returned (.bool (rightB 8 a b n len)) ∧ Only [] w w' := by
  go_enter Try.func21, Try.ntmps21
  go_wp2
  all_goals refine bodyPost_ret (results_tmp rfl _ _ _) rfl ⟨?_, by (repeat (first | with_reducible exact Only.refl _ _ | with_reducible exact Only.refl [] w | with_reducible refine Only.drew ?_ | with_reducible refine Only.drewN ?_ _ | with_reducible refine Only.alloc ?_ _ | ((with_reducible refine Only.setCell ?_ ?_ _); rotate_left; (focus (first | (left; simp; done) | (right; simp; done) | (right; simp; omega) | (right; omega))))))⟩
  all_goals refine ret_bool ?_
  all_goals rw [rb8]
  all_goals (first | (simp; done) | (simp; omega) | omega)
theorem rb9 : rightB 9 a b n len = true ↔ ((0 ≤ a ∧ a < 8) ∧ 0 ≤ b ∧ b < 8) ∧ n = 0 := by
  unfold rightB btw
  simp
set_option maxRecDepth 100000 in
set_option maxHeartbeats 3200000 in
theorem fields9 : Calls Try.prog 21 #[.agg #[iv 9, iv a, iv b, iv n], iv len] w fun e w' => e = .returned (.bool (rightB 9 a b n len)) ∧ Only [] w w' := by
  go_enter Try.func21, Try.ntmps21
  go_wp2
  all_goals refine bodyPost_ret (results_tmp rfl _ _ _) rfl ⟨?_, by (repeat (first | with_reducible exact Only.refl _ _ | with_reducible exact Only.refl [] w | with_reducible refine Only.drew ?_ | with_reducible refine Only.drewN ?_ _ | with_reducible refine Only.alloc ?_ _ | ((with_reducible refine Only.setCell ?_ ?_ _); rotate_left; (focus (first | (left; simp; done) | (right; simp; done) | (right; simp; omega) | (right; omega))))))⟩
  all_goals refine ret_bool ?_
  all_goals rw [rb9]
  all_goals (first | (simp; done) | (simp; omega) | omega)
theorem rb10 : rightB 10 a b n len = true ↔ ((0 ≤ a ∧ a < 8) ∧ 0 ≤ n ∧ n ≤ 255) ∧ b = 0 := by
  unfold rightB btw
  simp
set_option maxRecDepth 100000 in
set_option maxHeartbeats 3200000 in
theorem fields10 : Calls Try.prog 21 #[.agg #[iv 10, iv a, iv b, iv n], iv len] w fun e w' => e = .returned (.bool (rightB 10 a b n len)) ∧ Only [] w w' := by
  go_enter Try.func21, Try.ntmps21
  go_wp2
  all_goals refine bodyPost_ret (results_tmp rfl _ _ _) rfl ⟨?_, by (repeat (first | with_reducible exact Only.refl _ _ | with_reducible exact Only.refl [] w | with_reducible refine Only.drew ?_ | with_reducible refine Only.drewN ?_ _ | with_reducible refine Only.alloc ?_ _ | ((with_reducible refine Only.setCell ?_ ?_ _); rotate_left; (focus (first | (left; simp; done) | (right; simp; done) | (right; simp; omega) | (right; omega))))))⟩
  all_goals refine ret_bool ?_
  all_goals rw [rb10]
  all_goals (first | (simp; done) | (simp; omega) | omega)
theorem rb11 : rightB 11 a b n len = true ↔ a = 0 ∧ b = 0 ∧ n = 0 := by
  unfold rightB btw
  simp
set_option maxRecDepth 100000 in
set_option maxHeartbeats 3200000 in
theorem fields11 : Calls Try.prog 21 #[.agg #[iv 11, iv a, iv b, iv n], iv len] w fun e w' => e = .returned (.bool (rightB 11 a b n len)) ∧ Only [] w w' := by
  go_enter Try.func21, Try.ntmps21
  go_wp2
  all_goals refine bodyPost_ret (results_tmp rfl _ _ _) rfl ⟨?_, by (repeat (first | with_reducible exact Only.refl _ _ | with_reducible exact Only.refl [] w | with_reducible refine Only.drew ?_ | with_reducible refine Only.drewN ?_ _ | with_reducible refine Only.alloc ?_ _ | ((with_reducible refine Only.setCell ?_ ?_ _); rotate_left; (focus (first | (left; simp; done) | (right; simp; done) | (right; simp; omega) | (right; omega))))))⟩
  all_goals refine ret_bool ?_
  all_goals rw [rb11]
  all_goals (first | (simp; done) | (simp; omega) | omega)
theorem rb12 : rightB 12 a b n len = true ↔ a = 0 ∧ b = 0 := by
  unfold rightB btw
  simp
set_option maxRecDepth 100000 in
set_option maxHeartbeats 3200000 in
theorem fields12 : Calls Try.prog 21 #[.agg #[iv 12, iv a, iv b, iv n], iv len] w fun e w' => e = .returned (.bool (rightB 12 a b n len)) ∧ Only [] w w' := by
  go_enter Try.func21, Try.ntmps21
  go_wp2
  all_goals refine bodyPost_ret (results_tmp rfl _ _ _) rfl ⟨?_, by (repeat (first | with_reducible exact Only.refl _ _ | with_reducible exact Only.refl [] w | with_reducible refine Only.drew ?_ | with_reducible refine Only.drewN ?_ _ | with_reducible refine Only.alloc ?_ _ | ((with_reducible refine Only.setCell ?_ ?_ _); rotate_left; (focus (first | (left; simp; done) | (right; simp; done) | (right; simp; omega) | (right; omega))))))⟩
  all_goals refine ret_bool ?_
  all_goals rw [rb12]
  all_goals (first | (simp; done) | (simp; omega) | omega)
theorem rb13 : rightB 13 a b n len = true ↔ (0 ≤ n ∧ n ≤ len) ∧ a = 0 ∧ b = 0 := by
  unfold rightB btw
  simp
set_option maxRecDepth 100000 in
set_option maxHeartbeats 3200000 in
theorem fields13 (h0 : 0 ≤ len) (h1 : len ≤ 256) : Calls Try.prog 21 #[.agg #[iv 13, iv a, iv b, iv n], iv len] w fun e w' => e = .returned (.bool (rightB 13 a b n len)) ∧ Only [] w w' := by
  go_enter Try.func21, Try.ntmps21
  go_wp2
  all_goals refine bodyPost_ret (results_tmp rfl _ _ _) rfl ⟨?_, by (repeat (first | with_reducible exact Only.refl _ _ | with_reducible exact Only.refl [] w | with_reducible refine Only.drew ?_ | with_reducible refine Only.drewN ?_ _ | with_reducible refine Only.alloc ?_ _ | ((with_reducible refine Only.setCell ?_ ?_ _); rotate_left; (focus (first | (left; simp; done) | (right; simp; done) | (right; simp; omega) | (right; omega))))))⟩
  all_goals refine ret_bool ?_
  all_goals rw [rb13]
  all_goals (first | (simp; done) | (simp; omega) | omega)
end
end Go.Proofs.Ytompelilflckkaa
