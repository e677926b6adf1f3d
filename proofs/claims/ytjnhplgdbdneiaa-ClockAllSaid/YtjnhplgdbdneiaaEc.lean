/-
  Clock: the document's keys of numbers: Key, Compare, Same; a rung as a length of time.
-/
import Derived.Test.YtjnhplgdbdneiaaDp
import Derived.Laws.Bits64b
set_option linter.unusedSimpArgs false
set_option linter.unusedVariables false
namespace Go.Proofs.Ytjnhplgdbdneiaa
open Go.RowKit Go.Fl

/-- Is it no number? -/
def nanB (b : Nat) : Bool := decide (9218868437227405312 < b % 9223372036854775808)
/-- A number's key. -/
def keyR (b : Nat) : Nat := if nanB b = true then 18446744073709551615 else if 9223372036854775808 ≤ b then 18446744073709551615 - b else b + 9223372036854775808
theorem bits_not {x : Nat} (h : x < 18446744073709551616) : bits .xor .u64 IntKind.u64.max (x : Int) = ((18446744073709551615 - x : Nat) : Int) := by
  have e := bits_xor_u64_nat 18446744073709551615 x (by omega) h
  rw [show ((18446744073709551615 : Nat) : Int) = IntKind.u64.max from by kernel_rfl] at e
  rw [e]
  refine congrArg (Nat.cast : Nat → Int) ?_
  have h1 : (BitVec.allOnes 64 ^^^ BitVec.ofNat 64 x).toNat = (~~~ (BitVec.ofNat 64 x)).toNat := by rw [BitVec.allOnes_xor]
  rw [BitVec.toNat_xor, BitVec.toNat_not, BitVec.toNat_allOnes, BitVec.toNat_ofNat, Nat.mod_eq_of_lt (by omega)] at h1
  exact h1
theorem bits_low63 {x : Nat} (h : x < 18446744073709551616) : bits .and .u64 (x : Int) 9223372036854775807 = ((x % 9223372036854775808 : Nat) : Int) := by
  have e := bits_and_u64_nat x 9223372036854775807 h (by omega)
  rw [show ((9223372036854775807 : Nat) : Int) = (9223372036854775807 : Int) from rfl] at e
  rw [e]
  refine congrArg (Nat.cast : Nat → Int) ?_
  exact Nat.and_two_pow_sub_one_eq_mod x 63
set_option maxRecDepth 100000 in
theorem nan50 (w : World) (b : Nat) (hb : b < 18446744073709551616) : Calls Try.prog 50 #[fv b] w fun e w' => e = .returned (.bool (nanB b)) ∧ w' = w := by
  have e := e43
  have b1 := bits_low63 hb
  have hn : nanB b = decide ((9218868437227405312 : Int) < ((b % 9223372036854775808 : Nat) : Int)) := by
    unfold nanB
    congr 1
    exact propext (by omega)
  rw [hn]
  go_enter Try.func50, Try.ntmps50
  go_wp2
  exact bodyPost_ret (results_tmp rfl _ _ _) rfl ⟨rfl, rfl⟩
set_option maxRecDepth 100000 in
theorem key34 (w : World) (b : Nat) (hb : b < 18446744073709551616) : Calls Try.prog 34 #[fv b] w fun e w' => e = .returned (.int .u64 (keyR b)) ∧ w' = w := by
  have e := e43
  have HN := Lib.hid (fun w => nan50 w b hb)
  unfold keyR
  by_cases h1 : nanB b = true
  · rw [if_pos h1]
    rw [h1] at HN
    go_enter Try.func34, Try.ntmps34
    go_wp2_with fail
    refine (HN.out _).mono ?_
    rintro e w1 ⟨rfl, rfl⟩
    go_wp2
    exact bodyPost_ret (results_tmp rfl _ _ _) rfl ⟨rfl, rfl⟩
  · rw [if_neg h1]
    have h1' : nanB b = false := by simpa using h1
    rw [h1'] at HN
    by_cases h2 : 9223372036854775808 ≤ b
    · rw [if_pos h2]
      have h2z : (9223372036854775808 : Int) ≤ (b : Int) := by omega
      have b0 := bits_not hb
      obtain ⟨c, hc⟩ : ∃ c, c = 18446744073709551615 - b := ⟨_, rfl⟩
      rw [← hc] at b0 ⊢
      have B0 := Lib.hid b0
      clear b0 hc hb h1 h1' h2
      go_enter Try.func34, Try.ntmps34
      go_wp2_with fail
      refine (HN.out _).mono ?_
      rintro e w1 ⟨rfl, rfl⟩
      go_wp2_with (rw [show (bits .xor .u64 (if IntKind.u64.signed = true then -1 else IntKind.u64.max) (b : Int)) = (c : Int) from B0.out])
      exact bodyPost_ret (results_tmp rfl _ _ _) rfl ⟨rfl, rfl⟩
    · rw [if_neg h2]
      have h2z : (b : Int) < 9223372036854775808 := by omega
      have h2y : decide ((9223372036854775808 : Int) ≤ (b : Int)) = false := decide_eq_false (by omega)
      have hw : IntKind.u64.wrap ((b : Int) + 9223372036854775808) = ((b + 9223372036854775808 : Nat) : Int) := by rw [IntKind.wrap_u64]; omega
      obtain ⟨c, hc⟩ : ∃ c, c = b + 9223372036854775808 := ⟨_, rfl⟩
      rw [← hc] at hw ⊢
      clear hc hb h1 h1' h2
      go_enter Try.func34, Try.ntmps34
      go_wp2_with fail
      refine (HN.out _).mono ?_
      rintro e w1 ⟨rfl, rfl⟩
      go_wp2
      exact bodyPost_ret (results_tmp rfl _ _ _) rfl ⟨rfl, rfl⟩
set_option maxRecDepth 100000 in
theorem cmp36 (w : World) (a b : Nat) (ha : a < 18446744073709551616) (hb : b < 18446744073709551616) : Calls Try.prog 36 #[fv a, fv b] w fun e w' => e = .returned (iv (cmpI (keyR a) (keyR b))) ∧ w' = w := by
  have HA := Lib.hid (fun w => key34 w a ha)
  have HB := Lib.hid (fun w => key34 w b hb)
  generalize keyR a = x at *
  generalize keyR b = y at *
  unfold cmpI
  by_cases h1 : (x : Int) < (y : Int)
  · rw [if_pos h1]
    go_enter Try.func36, Try.ntmps36
    go_wp2_with fail
    refine (HA.out _).mono ?_
    rintro e w1 ⟨rfl, rfl⟩
    go_wp2_with fail
    refine (HB.out _).mono ?_
    rintro e w1 ⟨rfl, rfl⟩
    go_wp2
    exact bodyPost_ret (results_tmp rfl _ _ _) rfl ⟨rfl, rfl⟩
  · rw [if_neg h1]
    by_cases h2 : (y : Int) < (x : Int)
    · rw [if_pos h2]
      go_enter Try.func36, Try.ntmps36
      go_wp2_with fail
      refine (HA.out _).mono ?_
      rintro e w1 ⟨rfl, rfl⟩
      go_wp2_with fail
      refine (HB.out _).mono ?_
      rintro e w1 ⟨rfl, rfl⟩
      go_wp2_with fail
      refine (HA.out _).mono ?_
      rintro e w1 ⟨rfl, rfl⟩
      go_wp2_with fail
      refine (HB.out _).mono ?_
      rintro e w1 ⟨rfl, rfl⟩
      go_wp2
      exact bodyPost_ret (results_tmp rfl _ _ _) rfl ⟨rfl, rfl⟩
    · rw [if_neg h2]
      go_enter Try.func36, Try.ntmps36
      go_wp2_with fail
      refine (HA.out _).mono ?_
      rintro e w1 ⟨rfl, rfl⟩
      go_wp2_with fail
      refine (HB.out _).mono ?_
      rintro e w1 ⟨rfl, rfl⟩
      go_wp2_with fail
      refine (HA.out _).mono ?_
      rintro e w1 ⟨rfl, rfl⟩
      go_wp2_with fail
      refine (HB.out _).mono ?_
      rintro e w1 ⟨rfl, rfl⟩
      go_wp2
      exact bodyPost_ret (results_tmp rfl _ _ _) rfl ⟨rfl, rfl⟩
set_option maxRecDepth 100000 in
theorem same16 (w : World) (a b : Nat) (ha : a < 18446744073709551616) (hb : b < 18446744073709551616) : Calls Try.prog 16 #[fv a, fv b] w fun e w' => e = .returned (.bool (decide (keyR a = keyR b))) ∧ w' = w := by
  have HA := Lib.hid (fun w => key34 w a ha)
  have HB := Lib.hid (fun w => key34 w b hb)
  generalize keyR a = x at *
  generalize keyR b = y at *
  go_enter Try.func16, Try.ntmps16
  go_wp2_with fail
  refine (HA.out _).mono ?_
  rintro e w1 ⟨rfl, rfl⟩
  go_wp2_with fail
  refine (HB.out _).mono ?_
  rintro e w1 ⟨rfl, rfl⟩
  go_wp2
  exact bodyPost_ret (results_tmp rfl _ _ _) rfl ⟨by
    show Ending.returned (.bool ((x : Int) == (y : Int))) = _
    rw [show ((x : Int) == (y : Int)) = decide (x = y) by rw [Bool.eq_iff_iff, beq_iff_eq, decide_eq_true_iff]; omega], rfl⟩
/-- Rungs' keys stand as they do. -/
theorem keyR_rung {x : Nat} (h : x ≤ 9218868437227405312) : keyR x = x + 9223372036854775808 := by
  unfold keyR nanB
  rw [if_neg (by rw [decide_eq_false (by omega)]; simp), if_neg (by omega)]
theorem plV_rung {t : Nat} (h : t ≤ 9218868437227405312) : plB t = true ∧ plV t = t := by
  have h2 : plB t = true := by
    unfold plB
    exact decide_eq_true ⟨(rk_le h).2, by rw [(rk_le h).1]; omega⟩
  refine ⟨h2, ?_⟩
  rw [(plB_le (by omega) h2).2]
  omega
end Go.Proofs.Ytjnhplgdbdneiaa
