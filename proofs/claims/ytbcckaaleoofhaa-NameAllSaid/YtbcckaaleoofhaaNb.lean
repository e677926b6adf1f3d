/-
  Package name: plain, digit.
-/
import Derived.Test.YtbcckaaleoofhaaRows
import Derived.Test.YtbcckaaleoofhaaBase
import Derived.Test.YtbcckaaleoofhaaNa
import Derived.Deep.LoopGhost
namespace Go.Proofs.Ytbcckaaleoofhaa
open Go.RowKit Go.Fl

def plainI (c : Int) : Bool := decide (97 ≤ c ∧ c ≤ 122) || decide (48 ≤ c ∧ c ≤ 57)
theorem plain_ok (c : Int) (w : World) : Calls Try.prog 20 #[.int .u8 c] w fun e w' => e = .returned (.bool (plainI c)) ∧ w' = w := by
  have h : c < 48 ∨ (48 ≤ c ∧ c ≤ 57) ∨ (57 < c ∧ c < 97) ∨ (97 ≤ c ∧ c ≤ 122) ∨ 122 < c := by omega
  rcases h with h | ⟨h1, h2⟩ | ⟨h1, h2⟩ | ⟨h1, h2⟩ | h
  · have HP := Lib.hid (show plainI c = false by simp [plainI]; omega)
    go_enter Try.func20, Try.ntmps20
    go_wp2
    go_ret
    exact ⟨by rw [HP.out]; simp <;> omega, rfl⟩
  · have HP := Lib.hid (show plainI c = true by simp [plainI]; omega)
    go_enter Try.func20, Try.ntmps20
    go_wp2
    go_ret
    exact ⟨by rw [HP.out]; simp <;> omega, rfl⟩
  · have HP := Lib.hid (show plainI c = false by simp [plainI]; omega)
    go_enter Try.func20, Try.ntmps20
    go_wp2
    go_ret
    exact ⟨by rw [HP.out]; simp <;> omega, rfl⟩
  · have HP := Lib.hid (show plainI c = true by simp [plainI]; omega)
    go_enter Try.func20, Try.ntmps20
    go_wp2
    go_ret
    exact ⟨by rw [HP.out]; simp <;> omega, rfl⟩
  · have HP := Lib.hid (show plainI c = false by simp [plainI]; omega)
    go_enter Try.func20, Try.ntmps20
    go_wp2
    go_ret
    exact ⟨by rw [HP.out]; simp <;> omega, rfl⟩
end Go.Proofs.Ytbcckaaleoofhaa
