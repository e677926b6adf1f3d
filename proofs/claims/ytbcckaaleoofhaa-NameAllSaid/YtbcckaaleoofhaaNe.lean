/-
  Package name: digit; Number of a segment's name, and of texts of another length.
-/
import Derived.Test.YtbcckaaleoofhaaNc
namespace Go.Proofs.Ytbcckaaleoofhaa
open Go.RowKit Go.Fl

set_option maxHeartbeats 800000 in
/-- A figure read. -/
theorem digit_ok (d : Nat) (w : World) (h : d < 16) : Calls Try.prog 19 #[.int .u8 (dig d).toNat] w fun e w' => e = .returned (.tuple #[.int .i64 d, .bool true]) ∧ w' = w := by
  go_enter Try.func19, Try.ntmps19
  go_wp2
  go_loopw [4] (fun i wr => ∃ k : Nat, k ≤ d ∧ i = .int .i64 k ∧ Hid (wr = w)) (fun i _ => d - (intOf i).toNat)
  case atStart => exact ⟨0, Nat.zero_le _, rfl, Lib.hid rfl⟩
  case round =>
    obtain ⟨k, hk, rfl, HW⟩ := hrel
    obtain rfl := HW.out
    have hk16 : k < 16 := by omega
    have hkz : (k : Int) < 16 := by omega
    have hx := fig_get k hk16
    by_cases hkd : k = d
    · subst hkd
      go_wp2
      go_ret2
      exact ⟨rfl, rfl⟩
    · have hb : (((dig k).toNat : Int) == ((dig d).toNat : Int)) = false := by
        have h1 := dig_eq k hk16 d h
        have h2 : (k == d) = false := by simpa using hkd
        rw [h2] at h1
        simp only [beq_eq_false_iff_ne, ne_eq] at h1 ⊢
        intro e
        exact h1 (UInt8.toNat_inj.1 (by omega))
      have hlt : k < d := by omega
      clear hkd
      go_wp2
      go_roundw
      case measure => simp [intOf]; omega
      case rel => exact ⟨k + 1, by omega, by go_num, (by first | exact Lib.hid rfl | exact Lib.hid trivial)⟩
end Go.Proofs.Ytbcckaaleoofhaa
