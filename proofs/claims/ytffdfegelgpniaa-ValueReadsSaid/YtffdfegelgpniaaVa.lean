/-
  Values: numbers: the order of two whole numbers; a floating number's key.
-/
import Derived.Test.YtffdfegelgpniaaRows
import Derived.Test.YtffdfegelgpniaaBase
import Derived.Test.YtffdfegelgpniaaLex3
import Derived.Test.YtffdfegelgpniaaProg
import Derived.Laws.Externs
import Derived.Lib.Bytealg
import Derived.StillTailTactics
import Derived.BigQuiet
import Derived.LoopN
import Derived.WalkLawsBesides
import Derived.Deep.RegionHeld3
import Derived.Deep.RegionLaw
set_option linter.unusedSimpArgs false
set_option linter.unusedVariables false
namespace Go.Proofs.Ytffdfegelgpniaa
open Go.RowKit Go.Fl

abbrev iv (n : Int) : Value := .int .i64 n
abbrev fv (b : Nat) : Value := .float .f64 b
/-- How two numbers stand. -/
def cmpI (a b : Int) : Int := if a < b then -1 else if b < a then 1 else 0
theorem e59 (b : Nat) (w : World) : (callFunc 59 #[.float .f64 b]).run Try.prog w = .ok (.value (.int .u64 b)) w := by
  rw [run_callFunc_extern Try.func59 (by kernel_rfl) (by kernel_rfl) (by kernel_rfl) (e := Extern.MathFloatBits.float64bits) (by kernel_rfl)]
  rfl
theorem e70 (n : Int) (w : World) : (callFunc 70 #[.int .u64 n]).run Try.prog w = .ok (.value (.float .f64 n.toNat)) w := by
  rw [run_callFunc_extern Try.func70 (by kernel_rfl) (by kernel_rfl) (by kernel_rfl) (e := Extern.MathFloatBits.float64frombits) (by kernel_rfl)]
  rfl
theorem e126 (a b : ByteArray) (w : World) : (callFunc 126 #[.string a, .string b]).run Try.prog w = .ok (.value (iv (Lib.compareBytes a.data.toList b.data.toList))) w := by
  rw [run_callFunc_extern Try.func126 (by kernel_rfl) (by kernel_rfl) (by kernel_rfl) (e := Extern.BytealgCompare.compare) (by kernel_rfl), Lib.run_compareString]
  rfl
set_option maxRecDepth 100000 in
theorem cmp61 (w : World) (a b : Int) : Calls Try.prog 61 #[.int .i64 a, .int .i64 b] w fun e w' => e = .returned (iv (cmpI a b)) ∧ w' = w := by
  have hn : ∀ (a : Int) (w : World), Calls Try.prog 72 #[.int .i64 a] w fun e w' => e = .returned (.bool false) ∧ w' = w := fun a w => by
    go_enter Try.func72, Try.ntmps72
    go_wp2
    exact bodyPost_ret (results_tmp rfl _ _ _) rfl ⟨by simp, rfl⟩
  unfold cmpI
  by_cases h1 : a < b
  · rw [if_pos h1]
    go_enter Try.func61, Try.ntmps61
    go_wp2_with fail
    refine (hn a w).mono ?_
    rintro e w1 ⟨rfl, rfl⟩
    go_wp2_with fail
    refine (hn b _).mono ?_
    rintro e w1 ⟨rfl, rfl⟩
    go_wp2
    exact bodyPost_ret (results_tmp rfl _ _ _) rfl ⟨rfl, rfl⟩
  · rw [if_neg h1]
    by_cases h2 : b < a
    · rw [if_pos h2]
      go_enter Try.func61, Try.ntmps61
      go_wp2_with fail
      refine (hn a w).mono ?_
      rintro e w1 ⟨rfl, rfl⟩
      go_wp2_with fail
      refine (hn b _).mono ?_
      rintro e w1 ⟨rfl, rfl⟩
      go_wp2
      exact bodyPost_ret (results_tmp rfl _ _ _) rfl ⟨rfl, rfl⟩
    · rw [if_neg h2]
      go_enter Try.func61, Try.ntmps61
      go_wp2_with fail
      refine (hn a w).mono ?_
      rintro e w1 ⟨rfl, rfl⟩
      go_wp2_with fail
      refine (hn b _).mono ?_
      rintro e w1 ⟨rfl, rfl⟩
      go_wp2
      exact bodyPost_ret (results_tmp rfl _ _ _) rfl ⟨rfl, rfl⟩
set_option maxRecDepth 100000 in
theorem cmp99 (w : World) (a b : Int) : Calls Try.prog 99 #[.int .i64 a, .int .i64 b] w fun e w' => e = .returned (iv (cmpI a b)) ∧ w' = w := by
  have hn : ∀ (a : Int) (w : World), Calls Try.prog 100 #[.int .i64 a] w fun e w' => e = .returned (.bool false) ∧ w' = w := fun a w => by
    go_enter Try.func100, Try.ntmps100
    go_wp2
    exact bodyPost_ret (results_tmp rfl _ _ _) rfl ⟨by simp, rfl⟩
  unfold cmpI
  by_cases h1 : a < b
  · rw [if_pos h1]
    go_enter Try.func99, Try.ntmps99
    go_wp2_with fail
    refine (hn a w).mono ?_
    rintro e w1 ⟨rfl, rfl⟩
    go_wp2_with fail
    refine (hn b _).mono ?_
    rintro e w1 ⟨rfl, rfl⟩
    go_wp2
    exact bodyPost_ret (results_tmp rfl _ _ _) rfl ⟨rfl, rfl⟩
  · rw [if_neg h1]
    by_cases h2 : b < a
    · rw [if_pos h2]
      go_enter Try.func99, Try.ntmps99
      go_wp2_with fail
      refine (hn a w).mono ?_
      rintro e w1 ⟨rfl, rfl⟩
      go_wp2_with fail
      refine (hn b _).mono ?_
      rintro e w1 ⟨rfl, rfl⟩
      go_wp2
      exact bodyPost_ret (results_tmp rfl _ _ _) rfl ⟨rfl, rfl⟩
    · rw [if_neg h2]
      go_enter Try.func99, Try.ntmps99
      go_wp2_with fail
      refine (hn a w).mono ?_
      rintro e w1 ⟨rfl, rfl⟩
      go_wp2_with fail
      refine (hn b _).mono ?_
      rintro e w1 ⟨rfl, rfl⟩
      go_wp2
      exact bodyPost_ret (results_tmp rfl _ _ _) rfl ⟨rfl, rfl⟩
set_option maxRecDepth 100000 in
theorem cmp106 (w : World) (a b : Int) : Calls Try.prog 106 #[.int .i64 a, .int .i64 b] w fun e w' => e = .returned (iv (cmpI a b)) ∧ w' = w := by
  have hn : ∀ (a : Int) (w : World), Calls Try.prog 108 #[.int .i64 a] w fun e w' => e = .returned (.bool false) ∧ w' = w := fun a w => by
    go_enter Try.func108, Try.ntmps108
    go_wp2
    exact bodyPost_ret (results_tmp rfl _ _ _) rfl ⟨by simp, rfl⟩
  unfold cmpI
  by_cases h1 : a < b
  · rw [if_pos h1]
    go_enter Try.func106, Try.ntmps106
    go_wp2_with fail
    refine (hn a w).mono ?_
    rintro e w1 ⟨rfl, rfl⟩
    go_wp2_with fail
    refine (hn b _).mono ?_
    rintro e w1 ⟨rfl, rfl⟩
    go_wp2
    exact bodyPost_ret (results_tmp rfl _ _ _) rfl ⟨rfl, rfl⟩
  · rw [if_neg h1]
    by_cases h2 : b < a
    · rw [if_pos h2]
      go_enter Try.func106, Try.ntmps106
      go_wp2_with fail
      refine (hn a w).mono ?_
      rintro e w1 ⟨rfl, rfl⟩
      go_wp2_with fail
      refine (hn b _).mono ?_
      rintro e w1 ⟨rfl, rfl⟩
      go_wp2
      exact bodyPost_ret (results_tmp rfl _ _ _) rfl ⟨rfl, rfl⟩
    · rw [if_neg h2]
      go_enter Try.func106, Try.ntmps106
      go_wp2_with fail
      refine (hn a w).mono ?_
      rintro e w1 ⟨rfl, rfl⟩
      go_wp2_with fail
      refine (hn b _).mono ?_
      rintro e w1 ⟨rfl, rfl⟩
      go_wp2
      exact bodyPost_ret (results_tmp rfl _ _ _) rfl ⟨rfl, rfl⟩
set_option maxRecDepth 100000 in
theorem cmp117 (w : World) (a b : Int) : Calls Try.prog 117 #[.int .u64 a, .int .u64 b] w fun e w' => e = .returned (iv (cmpI a b)) ∧ w' = w := by
  have hn : ∀ (a : Int) (w : World), Calls Try.prog 118 #[.int .u64 a] w fun e w' => e = .returned (.bool false) ∧ w' = w := fun a w => by
    go_enter Try.func118, Try.ntmps118
    go_wp2
    exact bodyPost_ret (results_tmp rfl _ _ _) rfl ⟨by simp, rfl⟩
  unfold cmpI
  by_cases h1 : a < b
  · rw [if_pos h1]
    go_enter Try.func117, Try.ntmps117
    go_wp2_with fail
    refine (hn a w).mono ?_
    rintro e w1 ⟨rfl, rfl⟩
    go_wp2_with fail
    refine (hn b _).mono ?_
    rintro e w1 ⟨rfl, rfl⟩
    go_wp2
    exact bodyPost_ret (results_tmp rfl _ _ _) rfl ⟨rfl, rfl⟩
  · rw [if_neg h1]
    by_cases h2 : b < a
    · rw [if_pos h2]
      go_enter Try.func117, Try.ntmps117
      go_wp2_with fail
      refine (hn a w).mono ?_
      rintro e w1 ⟨rfl, rfl⟩
      go_wp2_with fail
      refine (hn b _).mono ?_
      rintro e w1 ⟨rfl, rfl⟩
      go_wp2
      exact bodyPost_ret (results_tmp rfl _ _ _) rfl ⟨rfl, rfl⟩
    · rw [if_neg h2]
      go_enter Try.func117, Try.ntmps117
      go_wp2_with fail
      refine (hn a w).mono ?_
      rintro e w1 ⟨rfl, rfl⟩
      go_wp2_with fail
      refine (hn b _).mono ?_
      rintro e w1 ⟨rfl, rfl⟩
      go_wp2
      exact bodyPost_ret (results_tmp rfl _ _ _) rfl ⟨rfl, rfl⟩
/-- Is it no number? -/
def nanB (b : Nat) : Bool := decide (9218868437227405312 < b % 9223372036854775808)
theorem compare_self (n : Int) : compare n n = .eq := by simp [compare, compareOfLessAndEq]
theorem compare_selfN (n : Nat) : compare n n = .eq := by simp [compare, compareOfLessAndEq]
theorem nan_neq (b : Nat) : ((FloatKind.f64.format.order b b != some .eq) : Bool) = nanB b := by
  show ((Ieee.double.read b).order (Ieee.double.read b) != some .eq) = nanB b
  have hw : Ieee.double.signWeight = 9223372036854775808 := by kernel_rfl
  have hi : Ieee.double.infRung = 9218868437227405312 := by kernel_rfl
  unfold Ieee.Format.read nanB
  simp only [hw, hi]
  by_cases h1 : b % 9223372036854775808 < Ieee.double.binade
  · have hb : Ieee.double.binade = 4503599627370496 := by kernel_rfl
    rw [if_pos h1]
    rw [hb] at h1
    rw [decide_eq_false (by omega)]
    simp [Ieee.Datum.order, compare_self]
  · rw [if_neg h1]
    by_cases h2 : b % 9223372036854775808 < 9218868437227405312
    · rw [if_pos h2, decide_eq_false (by omega)]
      simp [Ieee.Datum.order, compare_self]
    · rw [if_neg h2]
      by_cases h3 : b % 9223372036854775808 = 9218868437227405312
      · rw [if_pos h3, decide_eq_false (by omega)]
        simp [Ieee.Datum.order, compare_selfN]
      · rw [if_neg h3, decide_eq_true (by omega)]
        simp [Ieee.Datum.order]
/-- A number's key. -/
def keyR (b : Nat) : Nat := if nanB b = true then 18446744073709551615 else if 9223372036854775808 ≤ b then 18446744073709551615 - b else b + 9223372036854775808
end Go.Proofs.Ytffdfegelgpniaa
