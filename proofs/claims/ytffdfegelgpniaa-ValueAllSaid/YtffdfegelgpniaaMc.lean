/-
  Values: numbers: the order of two whole numbers; a floating number's key.
-/
import Derived.Test.YtffdfegelgpniaaRows
import Derived.Test.YtffdfegelgpniaaMb
import Derived.Test.YtffdfegelgpniaaMa
import Derived.Test.YtffdfegelgpniaaProg
import Derived.Laws.Externs
import Derived.Lib.Bytealg
import Derived.StillTailTactics
import Derived.BigQuiet
import Derived.LoopN
import Derived.WalkLawsBesides
import Derived.Deep.RegionHeld3
import Derived.Deep.RegionLaw
import Derived.Laws.Bits64b
import Derived.Deep.DeepCutAuto
import Derived.Outline
import Derived.Handy
set_option linter.unusedSimpArgs false
set_option linter.unusedVariables false
set_option linter.unusedSimpArgs false
set_option linter.unusedVariables false
namespace Go.Proofs.Ytffdfegelgpniaa
open Go.RowKit Go.Fl

abbrev iv (n : Int) : Value := .int .i64 n
abbrev fv (b : Nat) : Value := .float .f64 b
/-- How two numbers stand. -/
def cmpI (a b : Int) : Int := if a < b then -1 else if b < a then 1 else 0
theorem e59 (b : Nat) (w : World) : (callFunc 59 #[.float .f64 b]).run Try.prog w = .ok (.value (.int .u64 b)) w := by
  rw [run_callFunc_extern Try.func59 (by kernel_rfl) (by kernel_rfl) (by kernel_rfl) (e := Extern.MathFloatBits.float64bits) (by kernel_rfl)]
  rfl
theorem e70 (n : Int) (w : World) : (callFunc 70 #[.int .u64 n]).run Try.prog w = .ok (.value (.float .f64 n.toNat)) w := by
  rw [run_callFunc_extern Try.func70 (by kernel_rfl) (by kernel_rfl) (by kernel_rfl) (e := Extern.MathFloatBits.float64frombits) (by kernel_rfl)]
  rfl
theorem e126 (a b : ByteArray) (w : World) : (callFunc 126 #[.string a, .string b]).run Try.prog w = .ok (.value (iv (Lib.compareBytes a.data.toList b.data.toList))) w := by
  rw [run_callFunc_extern Try.func126 (by kernel_rfl) (by kernel_rfl) (by kernel_rfl) (e := Extern.BytealgCompare.compare) (by kernel_rfl), Lib.run_compareString]
  rfl
set_option maxRecDepth 100000 in
theorem cmp61 (w : World) (a b : Int) : Calls Try.prog 61 #[.int .i64 a, .int .i64 b] w fun e w' => e = .returned (iv (cmpI a b)) ∧ w' = w := by
  have hn : ∀ (a : Int) (w : World), Calls Try.prog 72 #[.int .i64 a] w fun e w' => e = .returned (.bool false) ∧ w' = w := fun a w => by
    go_enter Try.func72, Try.ntmps72
    go_wp2
    exact bodyPost_ret (results_tmp rfl _ _ _) rfl ⟨by simp, rfl⟩
  unfold cmpI
  by_cases h1 : a < b
  · rw [if_pos h1]
    go_enter Try.func61, Try.ntmps61
    go_wp2_with fail
    refine (hn a w).mono ?_
    rintro e w1 ⟨rfl, rfl⟩
    go_wp2_with fail
    refine (hn b _).mono ?_
    rintro e w1 ⟨rfl, rfl⟩
    go_wp2
    exact bodyPost_ret (results_tmp rfl _ _ _) rfl ⟨rfl, rfl⟩
  · rw [if_neg h1]
    by_cases h2 : b < a
    · rw [if_pos h2]
      go_enter Try.func61, Try.ntmps61
      go_wp2_with fail
      refine (hn a w).mono ?_
      rintro e w1 ⟨rfl, rfl⟩
      go_wp2_with fail
      refine (hn b _).mono ?_
      rintro e w1 ⟨rfl, rfl⟩
      go_wp2
      exact bodyPost_ret (results_tmp rfl _ _ _) rfl ⟨rfl, rfl⟩
    · rw [if_neg h2]
      go_enter Try.func61, Try.ntmps61
      go_wp2_with fail
      refine (hn a w).mono ?_
      rintro e w1 ⟨rfl, rfl⟩
      go_wp2_with fail
      refine (hn b _).mono ?_
      rintro e w1 ⟨rfl, rfl⟩
      go_wp2
      exact bodyPost_ret (results_tmp rfl _ _ _) rfl ⟨rfl, rfl⟩
set_option maxRecDepth 100000 in
theorem cmp99 (w : World) (a b : Int) : Calls Try.prog 99 #[.int .i64 a, .int .i64 b] w fun e w' => e = .returned (iv (cmpI a b)) ∧ w' = w := by
  have hn : ∀ (a : Int) (w : World), Calls Try.prog 100 #[.int .i64 a] w fun e w' => e = .returned (.bool false) ∧ w' = w := fun a w => by
    go_enter Try.func100, Try.ntmps100
    go_wp2
    exact bodyPost_ret (results_tmp rfl _ _ _) rfl ⟨by simp, rfl⟩
  unfold cmpI
  by_cases h1 : a < b
  · rw [if_pos h1]
    go_enter Try.func99, Try.ntmps99
    go_wp2_with fail
    refine (hn a w).mono ?_
    rintro e w1 ⟨rfl, rfl⟩
    go_wp2_with fail
    refine (hn b _).mono ?_
    rintro e w1 ⟨rfl, rfl⟩
    go_wp2
    exact bodyPost_ret (results_tmp rfl _ _ _) rfl ⟨rfl, rfl⟩
  · rw [if_neg h1]
    by_cases h2 : b < a
    · rw [if_pos h2]
      go_enter Try.func99, Try.ntmps99
      go_wp2_with fail
      refine (hn a w).mono ?_
      rintro e w1 ⟨rfl, rfl⟩
      go_wp2_with fail
      refine (hn b _).mono ?_
      rintro e w1 ⟨rfl, rfl⟩
      go_wp2
      exact bodyPost_ret (results_tmp rfl _ _ _) rfl ⟨rfl, rfl⟩
    · rw [if_neg h2]
      go_enter Try.func99, Try.ntmps99
      go_wp2_with fail
      refine (hn a w).mono ?_
      rintro e w1 ⟨rfl, rfl⟩
      go_wp2_with fail
      refine (hn b _).mono ?_
      rintro e w1 ⟨rfl, rfl⟩
      go_wp2
      exact bodyPost_ret (results_tmp rfl _ _ _) rfl ⟨rfl, rfl⟩
set_option maxRecDepth 100000 in
theorem cmp106 (w : World) (a b : Int) : Calls Try.prog 106 #[.int .i64 a, .int .i64 b] w fun e w' => e = .returned (iv (cmpI a b)) ∧ w' = w := by
  have hn : ∀ (a : Int) (w : World), Calls Try.prog 108 #[.int .i64 a] w fun e w' => e = .returned (.bool false) ∧ w' = w := fun a w => by
    go_enter Try.func108, Try.ntmps108
    go_wp2
    exact bodyPost_ret (results_tmp rfl _ _ _) rfl ⟨by simp, rfl⟩
  unfold cmpI
  by_cases h1 : a < b
  · rw [if_pos h1]
    go_enter Try.func106, Try.ntmps106
    go_wp2_with fail
    refine (hn a w).mono ?_
    rintro e w1 ⟨rfl, rfl⟩
    go_wp2_with fail
    refine (hn b _).mono ?_
    rintro e w1 ⟨rfl, rfl⟩
    go_wp2
    exact bodyPost_ret (results_tmp rfl _ _ _) rfl ⟨rfl, rfl⟩
  · rw [if_neg h1]
    by_cases h2 : b < a
    · rw [if_pos h2]
      go_enter Try.func106, Try.ntmps106
      go_wp2_with fail
      refine (hn a w).mono ?_
      rintro e w1 ⟨rfl, rfl⟩
      go_wp2_with fail
      refine (hn b _).mono ?_
      rintro e w1 ⟨rfl, rfl⟩
      go_wp2
      exact bodyPost_ret (results_tmp rfl _ _ _) rfl ⟨rfl, rfl⟩
    · rw [if_neg h2]
      go_enter Try.func106, Try.ntmps106
      go_wp2_with fail
      refine (hn a w).mono ?_
      rintro e w1 ⟨rfl, rfl⟩
      go_wp2_with fail
      refine (hn b _).mono ?_
      rintro e w1 ⟨rfl, rfl⟩
      go_wp2
      exact bodyPost_ret (results_tmp rfl _ _ _) rfl ⟨rfl, rfl⟩
set_option maxRecDepth 100000 in
theorem cmp117 (w : World) (a b : Int) : Calls Try.prog 117 #[.int .u64 a, .int .u64 b] w fun e w' => e = .returned (iv (cmpI a b)) ∧ w' = w := by
  have hn : ∀ (a : Int) (w : World), Calls Try.prog 118 #[.int .u64 a] w fun e w' => e = .returned (.bool false) ∧ w' = w := fun a w => by
    go_enter Try.func118, Try.ntmps118
    go_wp2
    exact bodyPost_ret (results_tmp rfl _ _ _) rfl ⟨by simp, rfl⟩
  unfold cmpI
  by_cases h1 : a < b
  · rw [if_pos h1]
    go_enter Try.func117, Try.ntmps117
    go_wp2_with fail
    refine (hn a w).mono ?_
    rintro e w1 ⟨rfl, rfl⟩
    go_wp2_with fail
    refine (hn b _).mono ?_
    rintro e w1 ⟨rfl, rfl⟩
    go_wp2
    exact bodyPost_ret (results_tmp rfl _ _ _) rfl ⟨rfl, rfl⟩
  · rw [if_neg h1]
    by_cases h2 : b < a
    · rw [if_pos h2]
      go_enter Try.func117, Try.ntmps117
      go_wp2_with fail
      refine (hn a w).mono ?_
      rintro e w1 ⟨rfl, rfl⟩
      go_wp2_with fail
      refine (hn b _).mono ?_
      rintro e w1 ⟨rfl, rfl⟩
      go_wp2
      exact bodyPost_ret (results_tmp rfl _ _ _) rfl ⟨rfl, rfl⟩
    · rw [if_neg h2]
      go_enter Try.func117, Try.ntmps117
      go_wp2_with fail
      refine (hn a w).mono ?_
      rintro e w1 ⟨rfl, rfl⟩
      go_wp2_with fail
      refine (hn b _).mono ?_
      rintro e w1 ⟨rfl, rfl⟩
      go_wp2
      exact bodyPost_ret (results_tmp rfl _ _ _) rfl ⟨rfl, rfl⟩
/-- Is it no number? -/
def nanB (b : Nat) : Bool := decide (9218868437227405312 < b % 9223372036854775808)
theorem compare_self (n : Int) : compare n n = .eq := by simp [compare, compareOfLessAndEq]
theorem compare_selfN (n : Nat) : compare n n = .eq := by simp [compare, compareOfLessAndEq]
theorem nan_neq (b : Nat) : ((FloatKind.f64.format.order b b != some .eq) : Bool) = nanB b := by
  show ((Ieee.double.read b).order (Ieee.double.read b) != some .eq) = nanB b
  have hw : Ieee.double.signWeight = 9223372036854775808 := by kernel_rfl
  have hi : Ieee.double.infRung = 9218868437227405312 := by kernel_rfl
  unfold Ieee.Format.read nanB
  simp only [hw, hi]
  by_cases h1 : b % 9223372036854775808 < Ieee.double.binade
  · have hb : Ieee.double.binade = 4503599627370496 := by kernel_rfl
    rw [if_pos h1]
    rw [hb] at h1
    rw [decide_eq_false (by omega)]
    simp [Ieee.Datum.order, compare_self]
  · rw [if_neg h1]
    by_cases h2 : b % 9223372036854775808 < 9218868437227405312
    · rw [if_pos h2, decide_eq_false (by omega)]
      simp [Ieee.Datum.order, compare_self]
    · rw [if_neg h2]
      by_cases h3 : b % 9223372036854775808 = 9218868437227405312
      · rw [if_pos h3, decide_eq_false (by omega)]
        simp [Ieee.Datum.order, compare_selfN]
      · rw [if_neg h3, decide_eq_true (by omega)]
        simp [Ieee.Datum.order]
/-- A number's key. -/
def keyR (b : Nat) : Nat := if nanB b = true then 18446744073709551615 else if 9223372036854775808 ≤ b then 18446744073709551615 - b else b + 9223372036854775808
end Go.Proofs.Ytffdfegelgpniaa
/-
  Values: floating numbers: keys, canonical ones; texts.
-/
set_option linter.unusedSimpArgs false
set_option linter.unusedVariables false
namespace Go.Proofs.Ytffdfegelgpniaa
open Go.RowKit Go.Fl

set_option maxRecDepth 100000 in
theorem strcmp (w : World) (a b : ByteArray) : Calls Try.prog 124 #[.string a, .string b] w fun e w' => e = .returned (iv (Lib.compareBytes a.data.toList b.data.toList)) ∧ w' = w := by
  have h : ∀ w, Calls Try.prog 125 #[.string a, .string b] w fun e w' => e = .returned (iv (Lib.compareBytes a.data.toList b.data.toList)) ∧ w' = w := fun w => by
    have e := e126
    go_enter Try.func125, Try.ntmps125
    go_wp2
    exact bodyPost_ret (results_tmp rfl _ _ _) rfl ⟨rfl, rfl⟩
  go_enter Try.func124, Try.ntmps124
  go_wp2_with fail
  refine (h w).mono ?_
  rintro e w1 ⟨rfl, rfl⟩
  go_wp2
  exact bodyPost_ret (results_tmp rfl _ _ _) rfl ⟨rfl, rfl⟩
/-! Bits of 64-bit numbers. -/
theorem xor63 {r : Nat} (h : r < 9223372036854775808) : r ^^^ 9223372036854775808 = r + 9223372036854775808 := by
  have h1 : 2 ^ 63 * 1 + r = 2 ^ 63 * 1 ||| r := Nat.two_pow_add_eq_or_of_lt (by omega) 1
  have h2 : r + 9223372036854775808 = 2 ^ 63 ||| r := by
    rw [Nat.mul_one] at h1
    rw [← h1]
    omega
  rw [h2]
  show r ^^^ 2 ^ 63 = 2 ^ 63 ||| r
  apply Nat.eq_of_testBit_eq
  intro i
  rw [Nat.testBit_xor, Nat.testBit_or, Nat.testBit_two_pow]
  by_cases hi : 63 = i
  · subst hi
    rw [Nat.testBit_lt_two_pow (by omega)]
    rfl
  · simp [hi]
theorem bits_top {x : Nat} (h : x < 18446744073709551616) : bits .xor .u64 (x : Int) 9223372036854775808 = (((x + 9223372036854775808) % 18446744073709551616 : Nat) : Int) := by
  have e := bits_xor_u64_nat x 9223372036854775808 h (by omega)
  rw [show ((9223372036854775808 : Nat) : Int) = (9223372036854775808 : Int) from rfl] at e
  rw [e]
  refine congrArg (Nat.cast : Nat → Int) ?_
  by_cases hx : x < 9223372036854775808
  · rw [xor63 hx]; omega
  · have h1 : x = (x - 9223372036854775808) ^^^ 9223372036854775808 := by rw [xor63 (by omega)]; omega
    rw [h1, Nat.xor_assoc, Nat.xor_self, Nat.xor_zero, ← h1]
    omega
theorem bits_not {x : Nat} (h : x < 18446744073709551616) : bits .xor .u64 IntKind.u64.max (x : Int) = ((18446744073709551615 - x : Nat) : Int) := by
  have e := bits_xor_u64_nat 18446744073709551615 x (by omega) h
  rw [show ((18446744073709551615 : Nat) : Int) = IntKind.u64.max from by kernel_rfl] at e
  rw [e]
  refine congrArg (Nat.cast : Nat → Int) ?_
  have h1 : (BitVec.allOnes 64 ^^^ BitVec.ofNat 64 x).toNat = (~~~ (BitVec.ofNat 64 x)).toNat := by rw [BitVec.allOnes_xor]
  rw [BitVec.toNat_xor, BitVec.toNat_not, BitVec.toNat_allOnes, BitVec.toNat_ofNat, Nat.mod_eq_of_lt (by omega)] at h1
  exact h1
theorem bits_ortop {x : Nat} (h : x < 9223372036854775808) : bits .or .u64 (x : Int) 9223372036854775808 = (x : Int) + 9223372036854775808 := by
  have e := bits_or_u64_nat x 9223372036854775808 (by omega) (by omega)
  rw [show ((9223372036854775808 : Nat) : Int) = (9223372036854775808 : Int) from rfl] at e
  rw [e]
  have h1 : 2 ^ 63 * 1 + x = 2 ^ 63 * 1 ||| x := Nat.two_pow_add_eq_or_of_lt (by omega) 1
  rw [Nat.mul_one, Nat.or_comm] at h1
  rw [show x ||| 9223372036854775808 = x + 9223372036854775808 by
    show x ||| 2 ^ 63 = _
    rw [← h1]; omega]
  omega
theorem bits_low {x : Nat} (h : x < 18446744073709551616) : bits .and .u64 (x : Int) 9223372036854775807 = ((x % 9223372036854775808 : Nat) : Int) := by
  have e := bits_and_u64_nat x 9223372036854775807 h (by omega)
  rw [show ((9223372036854775807 : Nat) : Int) = (9223372036854775807 : Int) from rfl] at e
  rw [e]
  refine congrArg (Nat.cast : Nat → Int) ?_
  exact Nat.and_two_pow_sub_one_eq_mod x 63
theorem bits_notop {x : Nat} (h : x < 18446744073709551616) : bits .andNot .u64 (x : Int) 9223372036854775808 = ((x % 9223372036854775808 : Nat) : Int) := by
  have h1 : (BitVec.ofInt 64 (x : Int)).toNat = x := by
    rw [BitVec.ofInt_natCast, BitVec.toNat_ofNat]; exact Nat.mod_eq_of_lt (by omega)
  show IntKind.u64.wrap ((BitVec.ofInt 64 (x : Int) &&& ~~~ BitVec.ofInt 64 9223372036854775808).toNat : Int) = _
  rw [BitVec.toNat_and, h1, IntKind.wrap_u64, show (~~~ BitVec.ofInt 64 9223372036854775808).toNat = 2 ^ 63 - 1 by decide, Nat.and_two_pow_sub_one_eq_mod]
  have : x % 2 ^ 63 < 2 ^ 63 := Nat.mod_lt _ (by decide)
  omega
theorem keyR_lt {b : Nat} (hb : b < 18446744073709551616) : keyR b < 18446744073709551616 := by
  unfold keyR
  split
  · omega
  · split <;> omega
set_option maxRecDepth 100000 in
theorem realKey (w : World) (b : Nat) (hb : b < 18446744073709551616) : Calls Try.prog 115 #[fv b] w fun e w' => e = .returned (.int .u64 (keyR b)) ∧ w' = w := by
  have e := e59
  have hn := nan_neq b
  unfold keyR
  by_cases h1 : nanB b = true
  · rw [if_pos h1]
    rw [h1] at hn
    go_enter Try.func115, Try.ntmps115
    go_wp2
    exact bodyPost_ret (results_tmp rfl _ _ _) rfl ⟨rfl, rfl⟩
  · rw [if_neg h1]
    have h1' : nanB b = false := by simpa using h1
    rw [h1'] at hn
    by_cases h2 : 9223372036854775808 ≤ b
    · rw [if_pos h2]
      have h2z : (9223372036854775808 : Int) ≤ (b : Int) := by omega
      go_enter Try.func115, Try.ntmps115
      go_wp2
      exact bodyPost_ret (results_tmp rfl _ _ _) rfl ⟨by simp [bits_not hb], rfl⟩
    · rw [if_neg h2]
      have h2z : ¬ (9223372036854775808 : Int) ≤ (b : Int) := by omega
      go_enter Try.func115, Try.ntmps115
      go_wp2
      exact bodyPost_ret (results_tmp rfl _ _ _) rfl ⟨by simp [bits_ortop (show b < 9223372036854775808 by omega)], rfl⟩
set_option maxRecDepth 100000 in
theorem realCmp (w : World) (a b : Nat) (ha : a < 18446744073709551616) (hb : b < 18446744073709551616) : Calls Try.prog 114 #[fv a, fv b] w fun e w' => e = .returned (iv (cmpI (keyR a) (keyR b))) ∧ w' = w := by
  go_enter Try.func114, Try.ntmps114
  go_wp2_with fail
  refine (realKey w a ha).mono ?_
  rintro e w1 ⟨rfl, rfl⟩
  go_wp2_with fail
  refine (realKey _ b hb).mono ?_
  rintro e w1 ⟨rfl, rfl⟩
  go_wp2_with fail
  refine (cmp117 _ _ _).mono ?_
  rintro e w1 ⟨rfl, rfl⟩
  go_wp2
  exact bodyPost_ret (results_tmp rfl _ _ _) rfl ⟨rfl, rfl⟩
/-- The one NaN. -/
def canR (b : Nat) : Nat := if nanB b = true then 9221120237041090561 else b
set_option maxRecDepth 100000 in
theorem none69 (w : World) : Calls Try.prog 69 #[] w fun e w' => e = .returned (fv 9221120237041090561) ∧ w' = w := by
  have e := e70
  go_enter Try.func69, Try.ntmps69
  go_wp2
  exact bodyPost_ret (results_tmp rfl _ _ _) rfl ⟨rfl, rfl⟩
set_option maxRecDepth 100000 in
theorem realCanon (w : World) (b : Nat) : Calls Try.prog 116 #[fv b] w fun e w' => e = .returned (fv (canR b)) ∧ w' = w := by
  have hn := nan_neq b
  unfold canR
  by_cases h1 : nanB b = true
  · rw [if_pos h1]
    rw [h1] at hn
    go_enter Try.func116, Try.ntmps116
    go_wp2_with fail
    refine (none69 _).mono ?_
    rintro e w1 ⟨rfl, rfl⟩
    go_wp2
    exact bodyPost_ret (results_tmp rfl _ _ _) rfl ⟨rfl, rfl⟩
  · rw [if_neg h1]
    have h1' : nanB b = false := by simpa using h1
    rw [h1'] at hn
    go_enter Try.func116, Try.ntmps116
    go_wp2
    exact bodyPost_ret (results_tmp rfl _ _ _) rfl ⟨rfl, rfl⟩
/-- The number of a key; none: there is none. -/
def unkeyR (k : Nat) : Option Nat :=
  if k = 18446744073709551615 then some 9221120237041090561
  else if 18442240474082181120 < k ∨ k < 4503599627370495 then none
  else if 9223372036854775808 ≤ k then some (k - 9223372036854775808) else some (18446744073709551615 - k)
def unkeyV : Option Nat → Value
  | none => .tuple #[fv 0, .bool false]
  | some b => .tuple #[fv b, .bool true]
set_option maxRecDepth 100000 in
theorem realUnkey (w : World) (k : Nat) (hk : k < 18446744073709551616) : Calls Try.prog 51 #[.int .u64 k] w fun e w' => e = .returned (unkeyV (unkeyR k)) ∧ w' = w := by
  have e := e70
  unfold unkeyR
  by_cases h0 : k = 18446744073709551615
  · rw [if_pos h0]
    subst h0
    go_enter Try.func51, Try.ntmps51
    go_wp2_with fail
    refine (none69 _).mono ?_
    rintro e w1 ⟨rfl, rfl⟩
    go_wp2
    exact bodyPost_ret (v := unkeyV (some 9221120237041090561)) (results2 rfl (res_tmp rfl) (res_tmp rfl)) rfl ⟨rfl, rfl⟩
  · rw [if_neg h0]
    have h0z : ((k : Int) == 18446744073709551615) = false := by rw [beq_eq_false_iff_ne]; omega
    by_cases h2 : 9223372036854775808 ≤ k
    · have h2z : ¬ (k : Int) < 9223372036854775808 := by omega
      have b1 := bits_notop hk
      have b2 := bits_notop (x := k % 9223372036854775808) (by omega)
      rw [Nat.mod_mod] at b2
      obtain ⟨m, hm⟩ : ∃ m, m = k % 9223372036854775808 := ⟨_, rfl⟩
      rw [← hm] at b1 b2
      have HM := Lib.hid (show m = k - 9223372036854775808 by omega)
      by_cases h1 : 18442240474082181120 < k
      · rw [if_pos (.inl h1)]
        have h3 : (9218868437227405312 : Int) < (m : Int) := by omega
        clear hm
        go_enter Try.func51, Try.ntmps51
        go_wp2
        exact bodyPost_ret (v := unkeyV none) (results2 rfl (res_tmp rfl) (res_tmp rfl)) rfl ⟨rfl, rfl⟩
      · rw [if_neg (by omega), if_pos h2]
        have h3 : ¬ (9218868437227405312 : Int) < (m : Int) := by omega
        clear hm
        go_enter Try.func51, Try.ntmps51
        go_wp2
        refine bodyPost_ret (v := unkeyV (some (k - 9223372036854775808))) (results2 rfl (res_tmp ?_) (res_tmp rfl)) rfl ⟨rfl, rfl⟩
        rw [← HM.out]
        rfl
    · have h2z : (k : Int) < 9223372036854775808 := by omega
      have b0 := bits_not hk
      have b2 := bits_notop (x := 18446744073709551615 - k) (by omega)
      obtain ⟨c, hc⟩ : ∃ c, c = 18446744073709551615 - k := ⟨_, rfl⟩
      rw [← hc] at b0 b2
      obtain ⟨m, hm⟩ : ∃ m, m = c % 9223372036854775808 := ⟨_, rfl⟩
      rw [← hm] at b2
      have HM := Lib.hid (show m = 9223372036854775807 - k by omega)
      have B0 := Lib.hid b0
      clear b0
      have b1 := bits_notop hk
      rw [show k % 9223372036854775808 = k by omega] at b1
      by_cases h1 : k < 4503599627370495
      · rw [if_pos (.inr h1)]
        have h3 : (9218868437227405312 : Int) < (m : Int) := by omega
        clear hm hc h1 h2 h0 hk
        go_enter Try.func51, Try.ntmps51
        go_upto_region 6 with fail
        rw [show (bits .xor .u64 (if IntKind.u64.signed = true then -1 else IntKind.u64.max) (k : Int)) = (c : Int) from B0.out]
        go_wp2
        exact bodyPost_ret (v := unkeyV none) (results2 rfl (res_tmp rfl) (res_tmp rfl)) rfl ⟨rfl, rfl⟩
      · rw [if_neg (by omega), if_neg h2, ← hc]
        have h3 : ¬ (9218868437227405312 : Int) < (m : Int) := by omega
        clear hm hc h1 h2 h0 hk
        go_enter Try.func51, Try.ntmps51
        go_upto_region 6 with fail
        rw [show (bits .xor .u64 (if IntKind.u64.signed = true then -1 else IntKind.u64.max) (k : Int)) = (c : Int) from B0.out]
        go_wp2
        exact bodyPost_ret (v := unkeyV (some c)) (results2 rfl (res_tmp rfl) (res_tmp rfl)) rfl ⟨rfl, rfl⟩
end Go.Proofs.Ytffdfegelgpniaa
/-
  Values: in plain words, and in memory; items.
-/
set_option linter.unusedSimpArgs false
set_option linter.unusedVariables false
namespace Go.Proofs.Ytffdfegelgpniaa
open Go.RowKit Go.Fl Go.ChangeShapes Go.WideShapes Go.Deep

/-- A value, whatever it is. -/
inductive V where
  | mk (kind int : Int) (real : Nat) (text : ByteArray) (list : List V)
/-- An item: a value that may be. -/
inductive I where
  | void
  | truth (n : Int)
  | whole (n : Int)
  | number (b : Nat)
  | text (t : ByteArray)
  | list (l : List I)
def V.kids : V → List V | .mk _ _ _ _ l => l
def bad (k i : Int) (r : Nat) (t : ByteArray) (n : Nat) (room : Int) : Bool :=
  decide (room < 0) || (decide (k ≠ 6) && decide (0 < n)) || (decide (k ≠ 5) && decide (0 < t.size)) || (decide (k ≠ 4) && decide (r ≠ 0)) || (decide (i ≠ 0) && decide (k ≠ 3) && decide (k ≠ 2))
mutual
/-- What take answers, and the room that it leaves. -/
def V.take : V → Nat → Int → Option I × Int
  | .mk k i r t l, nest, room =>
    if bad k i r t l.length (room - 1) = true then (none, room - 1)
    else if k = 1 then (some .void, room - 1)
    else if k = 2 then (if i = 0 ∨ i = 1 then (some (.truth i), room - 1) else (none, room - 1))
    else if k = 3 then (some (.whole i), room - 1)
    else if k = 4 then (some (.number r), room - 1)
    else if k = 5 then (if 0 ≤ room - 1 - t.size then (some (.text t), room - 1 - t.size) else (none, room - 1 - t.size))
    else if k = 6 then (if 8 < nest + 1 then (none, room - 1) else ((takes l (nest + 1) (room - 1)).1.map .list, (takes l (nest + 1) (room - 1)).2))
    else (none, room - 1)
def takes : List V → Nat → Int → Option (List I) × Int
  | [], _, room => (some [], room)
  | v :: l, nest, room =>
    match v.take nest room with
    | (none, r) => (none, r)
    | (some x, r) => ((takes l nest r).1.map (x :: ·), (takes l nest r).2)
end
theorem takes_snoc_none : ∀ (l : List V) (v : V) (nest : Nat) (room : Int) (xs : List I) (r : Int), takes l nest room = (some xs, r) → (v.take nest r).1 = none → ∀ m, takes (l ++ v :: m) nest room = (none, (v.take nest r).2)
  | [], v, nest, room, xs, r, h, hv, m => by
    simp [takes] at h
    obtain ⟨rfl, rfl⟩ := h
    cases hh : v.take nest room with
    | mk a b => rw [hh] at hv; simp at hv; subst hv; simp [takes, hh]
  | u :: l, v, nest, room, xs, r, h, hv, m => by
    cases hh : u.take nest room with
    | mk a b =>
      cases a with
      | none => simp [takes, hh] at h
      | some x =>
        simp only [takes, hh, List.cons_append] at h ⊢
        cases hl : takes l nest b with
        | mk c d =>
          rw [hl] at h
          cases c with
          | none => simp at h
          | some ys =>
            simp at h
            obtain ⟨_, rfl⟩ := h
            rw [takes_snoc_none l v nest b ys d hl hv m]
            rfl
theorem takes_snoc_some : ∀ (l : List V) (v : V) (nest : Nat) (room : Int) (xs : List I) (r : Int) (x : I), takes l nest room = (some xs, r) → (v.take nest r).1 = some x → takes (l ++ [v]) nest room = (some (xs ++ [x]), (v.take nest r).2)
  | [], v, nest, room, xs, r, x, h, hv => by
    simp [takes] at h
    obtain ⟨rfl, rfl⟩ := h
    cases hh : v.take nest room with
    | mk a b => rw [hh] at hv; simp at hv; subst hv; simp [takes, hh]
  | u :: l, v, nest, room, xs, r, x, h, hv => by
    cases hh : u.take nest room with
    | mk a b =>
      cases a with
      | none => simp [takes, hh] at h
      | some y =>
        simp only [takes, hh, List.cons_append] at h ⊢
        cases hl : takes l nest b with
        | mk c d =>
          rw [hl] at h
          cases c with
          | none => simp at h
          | some ys =>
            simp at h
            obtain ⟨rfl, rfl⟩ := h
            rw [takes_snoc_some l v nest b ys d x hl hv]
            rfl
mutual
theorem V.take_room : ∀ (v : V) (nest : Nat) (room : Int) (x : I), (v.take nest room).1 = some x → 0 ≤ (v.take nest room).2 ∧ (v.take nest room).2 < room
  | .mk k i r t l, nest, room, x, h => by
    unfold V.take at h ⊢
    by_cases hb : bad k i r t l.length (room - 1) = true
    · rw [if_pos hb] at h; cases h
    have hr : 0 ≤ room - 1 := by unfold bad at hb; simp at hb; omega
    rw [if_neg hb] at h ⊢
    split at h
    · rw [if_pos (by assumption)]; exact ⟨hr, by show room - 1 < room; omega⟩
    · rename_i h1
      rw [if_neg h1]
      split at h
      · rename_i h2
        rw [if_pos h2]
        split at h
        · rw [if_pos (by assumption)]; exact ⟨hr, by show room - 1 < room; omega⟩
        · cases h
      · rename_i h2
        rw [if_neg h2]
        split at h
        · rw [if_pos (by assumption)]; exact ⟨hr, by show room - 1 < room; omega⟩
        · rename_i h3
          rw [if_neg h3]
          split at h
          · rw [if_pos (by assumption)]; exact ⟨hr, by show room - 1 < room; omega⟩
          · rename_i h4
            rw [if_neg h4]
            split at h
            · rename_i h5
              rw [if_pos h5]
              split at h
              · rename_i h6
                rw [if_pos h6]
                exact ⟨h6, by show room - 1 - t.size < room; omega⟩
              · cases h
            · rename_i h5
              rw [if_neg h5]
              split at h
              · rename_i h6
                rw [if_pos h6]
                split at h
                · cases h
                · rename_i h7
                  rw [if_neg h7]
                  cases hl : takes l (nest + 1) (room - 1) with
                  | mk a b =>
                    rw [hl] at h
                    cases a with
                    | none => cases h
                    | some xs =>
                      have := takes_room l (nest + 1) (room - 1) xs hr (by rw [hl])
                      rw [hl] at this
                      exact ⟨this.1, by show b < room; have := this.2; simp at this; omega⟩
              · cases h
theorem takes_room : ∀ (l : List V) (nest : Nat) (room : Int) (xs : List I), 0 ≤ room → (takes l nest room).1 = some xs → 0 ≤ (takes l nest room).2 ∧ (takes l nest room).2 ≤ room
  | [], _, room, xs, h0, h => by simp [takes, h0]
  | v :: l, nest, room, xs, h0, h => by
    cases hh : v.take nest room with
    | mk a b =>
      cases a with
      | none => simp [takes, hh] at h
      | some x =>
        have h1 := V.take_room v nest room x (by rw [hh])
        rw [hh] at h1
        simp only [takes, hh] at h ⊢
        cases hl : takes l nest b with
        | mk c d =>
          rw [hl] at h
          cases c with
          | none => simp at h
          | some ys =>
            have h2 := takes_room l nest b ys h1.1 (by rw [hl])
            rw [hl] at h2
            have := h1.2
            have := h2.2
            simp at *
            omega
end
/-- A value in memory: its five cells; all its lists lie in blocks with F. -/
inductive VIs (w : World) (F : Nat → Prop) : V → List Value → Prop
  | mk {k i : Int} {r : Nat} {t : ByteArray} {l : List V} {a : Option Addr} {cap : Nat} (css : Nat → List Value) : (Lit.int .i64 k).wf = true → (Lit.int .i64 i).wf = true → r < 18446744073709551616 → t.size ≤ maxLen → l.length ≤ cap → cap ≤ maxLen →
      (0 < l.length → ∃ g off, a = some ⟨g, off, none⟩ ∧ g < w.heap.size ∧ F g ∧ ∀ j c u, j < l.length → (css j)[c]? = some u → w.cell? ⟨g, off + j * 5 + c, none⟩ = some u) →
      (∀ j (h : j < l.length), VIs w F l[j] (css j)) → VIs w F (.mk k i r t l) [iv k, iv i, fv r, .string t, .slice a l.length cap]
def I.typ : I → TypeId
  | .void => 103 | .truth _ => 104 | .whole _ => 105 | .number _ => 106 | .text _ => 107 | .list _ => 112
/-- What an item holds, in memory. -/
inductive IIs (w : World) (F : Nat → Prop) : I → Value → Prop
  | void : IIs w F .void (.agg #[])
  | truth (n : Int) : (Lit.int .i64 n).wf = true → IIs w F (.truth n) (iv n)
  | whole (n : Int) : (Lit.int .i64 n).wf = true → IIs w F (.whole n) (iv n)
  | number (b : Nat) : b < 18446744073709551616 → IIs w F (.number b) (fv b)
  | text (t : ByteArray) : t.size ≤ maxLen → IIs w F (.text t) (.string t)
  | list {l : List I} {a : Option Addr} {cap : Nat} (us : Nat → Value) : l.length ≤ cap → cap ≤ maxLen →
      (0 < l.length → ∃ g off, a = some ⟨g, off, none⟩ ∧ g < w.heap.size ∧ F g ∧ ∀ j (h : j < l.length), w.cell? ⟨g, off + j, none⟩ = some (.iface l[j].typ (us j))) →
      (∀ j (h : j < l.length), IIs w F l[j] (us j)) → IIs w F (.list l) (.slice a l.length cap)
section
variable {w w' : World} {F F' : Nat → Prop}
theorem VIs.keep {v : V} {cs : List Value} (h : VIs w F v cs) (hs : w.heap.size ≤ w'.heap.size) (hk : ∀ g, F g → g < w.heap.size → w'.heap[g]? = w.heap[g]?) (hF : ∀ g, F g → g < w.heap.size → F' g) : VIs w' F' v cs := by
  induction h with
  | mk css h1 h2 h3 h4 h5 h6 h7 h8 ih =>
    refine .mk css h1 h2 h3 h4 h5 h6 (fun h0 => ?_) ih
    obtain ⟨g, off, rfl, hg, hf, hc⟩ := h7 h0
    exact ⟨g, off, rfl, Nat.lt_of_lt_of_le hg hs, hF g hf hg, fun j c u hj hu => (World.cell?_of_block (w := w) (hk g hf hg)).trans (hc j c u hj hu)⟩
theorem IIs.keep {x : I} {u : Value} (h : IIs w F x u) (hs : w.heap.size ≤ w'.heap.size) (hk : ∀ g, F g → g < w.heap.size → w'.heap[g]? = w.heap[g]?) (hF : ∀ g, F g → g < w.heap.size → F' g) : IIs w' F' x u := by
  induction h with
  | void => exact .void
  | truth n h => exact .truth n h
  | whole n h => exact .whole n h
  | number n h => exact .number n h
  | text n h => exact .text n h
  | list us h5 h6 h7 h8 ih =>
    refine .list us h5 h6 (fun h0 => ?_) ih
    obtain ⟨g, off, rfl, hg, hf, hc⟩ := h7 h0
    exact ⟨g, off, rfl, Nat.lt_of_lt_of_le hg hs, hF g hf hg, fun j hj => (World.cell?_of_block (w := w) (hk g hf hg)).trans (hc j hj)⟩
theorem VIs.only {S : List Nat} {v : V} {cs : List Value} (h : VIs w F v cs) (ho : Only S w w') (hF : ∀ g, F g → g ∉ S) : VIs w' F v cs := h.keep ho.size (fun g hf hg => ho.block g hg (hF g hf)) fun _ h _ => h
theorem IIs.only {S : List Nat} {x : I} {u : Value} (h : IIs w F x u) (ho : Only S w w') (hF : ∀ g, F g → g ∉ S) : IIs w' F x u := h.keep ho.size (fun g hf hg => ho.block g hg (hF g hf)) fun _ h _ => h
theorem VIs.only0 {v : V} {cs : List Value} (h : VIs w F v cs) (ho : Only [] w w') : VIs w' F v cs := h.only ho fun _ _ => by simp
theorem IIs.only0 {x : I} {u : Value} (h : IIs w F x u) (ho : Only [] w w') : IIs w' F x u := h.only ho fun _ _ => by simp
theorem VIs.mono {v : V} {cs : List Value} (h : VIs w F v cs) (hF : ∀ g, F g → F' g) : VIs w F' v cs := h.keep (Nat.le_refl _) (fun _ _ _ => rfl) fun g h _ => hF g h
theorem IIs.mono {x : I} {u : Value} (h : IIs w F x u) (hF : ∀ g, F g → F' g) : IIs w F' x u := h.keep (Nat.le_refl _) (fun _ _ _ => rfl) fun g h _ => hF g h
theorem VIs.five {v : V} {cs : List Value} (h : VIs w F v cs) : ∃ (k i : Int) (r : Nat) (t : ByteArray) (a : Option Addr) (n cap : Nat), cs = [iv k, iv i, fv r, .string t, .slice a n cap] := by
  cases h with
  | mk css => exact ⟨_, _, _, _, _, _, _, rfl⟩
end
/-- The item of a value, or nil. -/
def OkI (w : World) (F : Nat → Prop) : Option I → Value → Prop
  | none, v => v = .nilIface
  | some x, v => ∃ u, v = .iface x.typ u ∧ IIs w F x u
section
variable {H : Type} {enc : TypeId × Value → H} {w : World}
theorem spot_none {a : Addr} {v : Value} (h : w.cell? a = some v) : a.spot = none := by
  unfold World.cell? at h
  split at h
  · split at h
    · cases h
    · rename_i k; simpa using k
  · cases h
theorem trod_real {t : TypeId} {fuel : Nat} {cs : List Value} {x : DataW H × List MemPlace} (ht : Try.prog.underlying t = some (.float .f64)) (h : DataW.trod enc Try.prog w 0 (fun _ => true) true fuel t cs = some x) : ∃ b, cs = [fv b] ∧ b < 18446744073709551616 := by
  cases fuel with
  | zero => simp [DataW.trod] at h
  | succ n =>
    unfold DataW.trod at h
    rw [ht] at h
    split at h <;> simp_all
    obtain ⟨⟨h0, h1⟩, _⟩ := h
    rename_i hk _
    subst hk
    exact of_decide_eq_true h1
/-- A value is read of five cells. -/
theorem open_cells : ∀ (fuel : Nat) (cs : List Value) (x : DataW H × List MemPlace), DataW.trod enc Try.prog w 0 (fun _ => true) true fuel 33 cs = some x → ∃ v, VIs w (· < w.heap.size) v cs := by
  intro fuel
  induction fuel using Nat.strongRecOn with
  | _ fuel ih =>
  intro cs x h
  obtain ⟨xs, n, hn, _, hlen, hxl, hat⟩ := DataW.trod_struct Try.underlying33 h
  replace hxl : xs.length = 5 := hxl
  have hc33 : Try.prog.cellsOf 33 = 5 := by kernel_rfl
  have hc3 : Try.prog.cellsOf 3 = 1 := by kernel_rfl
  have hc2 : Try.prog.cellsOf 2 = 1 := by kernel_rfl
  have hc30 : Try.prog.cellsOf 30 = 1 := by kernel_rfl
  have hc9 : Try.prog.cellsOf 9 = 1 := by kernel_rfl
  have hc31 : Try.prog.cellsOf 31 = 1 := by kernel_rfl
  rw [hc33] at hlen
  obtain ⟨x0, x1, x2, x3, x4, rfl⟩ : ∃ x0 x1 x2 x3 x4, xs = [x0, x1, x2, x3, x4] := by
    rcases xs with _ | ⟨c0, _ | ⟨c1, _ | ⟨c2, _ | ⟨c3, _ | ⟨c4, _ | _⟩⟩⟩⟩⟩
    case cons.cons.cons.cons.cons.nil => exact ⟨c0, c1, c2, c3, c4, rfl⟩
    all_goals simp at hxl
  obtain ⟨c0, c1, c2, c3, c4, rfl⟩ : ∃ c0 c1 c2 c3 c4, cs = [c0, c1, c2, c3, c4] := by
    rcases cs with _ | ⟨c0, _ | ⟨c1, _ | ⟨c2, _ | ⟨c3, _ | ⟨c4, _ | _⟩⟩⟩⟩⟩
    case cons.cons.cons.cons.cons.nil => exact ⟨c0, c1, c2, c3, c4, rfl⟩
    all_goals simp at hlen
  have h0 := hat 0 _ rfl
  have h1 := hat 1 _ rfl
  have h2 := hat 2 _ rfl
  have h3 := hat 3 _ rfl
  have h4 := hat 4 _ rfl
  replace h0 : DataW.trod enc Try.prog w 0 (fun _ => true) true n 3 [c0] = some x0 := by simpa [hc3] using h0
  replace h1 : DataW.trod enc Try.prog w 0 (fun _ => true) true n 2 [c1] = some x1 := by simpa [hc2] using h1
  replace h2 : DataW.trod enc Try.prog w 0 (fun _ => true) true n 30 [c2] = some x2 := by simpa [hc30] using h2
  replace h3 : DataW.trod enc Try.prog w 0 (fun _ => true) true n 9 [c3] = some x3 := by simpa [hc9] using h3
  replace h4 : DataW.trod enc Try.prog w 0 (fun _ => true) true n 31 [c4] = some x4 := by simpa [hc31] using h4
  obtain ⟨k, hk, _, wk⟩ := DataW.trod_int Try.underlying3 h0
  obtain ⟨i, hi, _, wi⟩ := DataW.trod_int Try.underlying2 h1
  obtain ⟨b, hb, wb⟩ := trod_real Try.underlying30 h2
  obtain ⟨s, hs, _, ws⟩ := DataW.trod_string Try.underlying9 h3
  simp at hk hi hb hs
  subst hk; subst hi; subst hb; subst hs
  rcases DataW.trod_slice Try.underlying31 h4 with ⟨e, _⟩ | ⟨a, len, cap, elems, rest, m, hm, e, _, _, hl, hcap, hel, hall, _, _⟩
  · simp at e
    subst e
    exact ⟨.mk k i b s [], .mk (l := []) (fun _ => []) wk wi wb ws (Nat.zero_le _) (Nat.zero_le _) (fun h => absurd h (Nat.not_lt_zero _)) fun j h => absurd h (Nat.not_lt_zero _)⟩
  · simp at e
    subst e
    have hone : ∀ j, j < len → ∃ v cs', VIs w (· < w.heap.size) v cs' ∧ w.cells? 0 (a.add (j * 5)) 5 = some cs' := fun j hj => by
      have h5 := hall j hj
      rw [hc33] at h5
      have h6 : elems[j]? = some (elems[j]'(by omega)) := List.getElem?_eq_getElem _
      rw [h6] at h5
      obtain ⟨cs', h7, h8⟩ := Option.bind_eq_some_iff.1 h5
      obtain ⟨v, hv⟩ := ih m (by omega) cs' _ h8
      exact ⟨v, cs', hv, h7⟩
    obtain ⟨l, hll, hp⟩ := list_of (p := fun j v => ∃ cs', VIs w (· < w.heap.size) v cs' ∧ w.cells? 0 (a.add (j * 5)) 5 = some cs') len hone
    subst hll
    have hcell : ∀ j (h : j < l.length), ∀ c u, ((hp j h).choose)[c]? = some u → w.cell? ((a.add (j * 5)).add c) = some u := fun j h c u hu => by
      have h7 := (hp j h).choose_spec.2
      obtain ⟨_, hlen5, hat5⟩ := World.cells?_some h7
      by_cases hc : c < 5
      · exact (hat5 c hc).trans hu
      · rw [List.getElem?_eq_none (by omega)] at hu; cases hu
    refine ⟨.mk k i b s l, .mk (fun j => if h : j < l.length then (hp j h).choose else []) wk wi wb ws hl hcap (fun hn => ?_) fun j h => ?_⟩
    · obtain ⟨d0, d1, d2, d3, d4, d5, d6, hd⟩ := ((hp 0 hn).choose_spec.1).five
      have h7 := hcell 0 hn 0 (iv d0) (by rw [hd]; rfl)
      have hsp : a.spot = none := by simpa [Addr.add] using spot_none h7
      have hlt : a.block < w.heap.size := by simpa [Addr.add] using cell_lt h7
      obtain ⟨g, off, sp⟩ := a
      simp only at hsp
      subst hsp
      refine ⟨g, off, rfl, hlt, hlt, fun j c u hj hu => ?_⟩
      simp only [hj, dif_pos] at hu
      have h8 := hcell j hj c u hu
      rw [Addr.add_lit, Addr.add_lit] at h8
      exact h8
    · simp only [h, dif_pos]
      exact (hp j h).choose_spec.1
end
/-- An argument that is a value. -/
theorem open_value {H : Type} {enc : TypeId × Value → H} {w : World} {v : Value} {d : DataW H} {ps : List MemPlace} (h : DataW.Trod enc Try.prog w 0 (fun _ => true) true 33 v d ps) (hw : ∃ us, v = .agg us) : ∃ x cs, v = .agg cs.toArray ∧ VIs w (· < w.heap.size) x cs := by
  obtain ⟨us, rfl⟩ := hw
  obtain ⟨fuel, h⟩ := h
  obtain ⟨x, hx⟩ := open_cells fuel _ _ h
  exact ⟨x, us.toList, by simp, by simpa [Value.cells] using hx⟩
end Go.Proofs.Ytffdfegelgpniaa
/-
  take and all: a list's item.
-/
set_option linter.unusedSimpArgs false
set_option linter.unusedVariables false
namespace Go.Proofs.Ytffdfegelgpniaa
open Go.RowKit Go.Fl

theorem info_parts {t : TypeId} {z : Value} {n b : Nat} (h : (Try.prog.info? t).map (fun i => (i.zero, i.size, i.bytes)) = some (some z, n, b)) : ∃ i, Try.prog.info? t = some i ∧ i.zero = some z ∧ i.size = n ∧ i.bytes = b := by
  cases hi : Try.prog.info? t with
  | none => rw [hi] at h; cases h
  | some i => rw [hi] at h; simp at h; exact ⟨i, rfl, h.1, h.2.1, h.2.2⟩
theorem own_fresh {W : World} {m : Nat} {u v2 : Value} (hF : ∀ g, u.ownBlock = some g → W.heap.size ≤ g) (hat : v2.ownBlock = u.ownBlock ∨ v2.ownBlock = some m) (hs : W.heap.size ≤ m) : ∀ g, v2.ownBlock = some g → W.heap.size ≤ g := fun g hg => by
  rcases hat with h | h
  · exact hF g (h ▸ hg)
  · rw [h] at hg; injection hg with hg; omega
theorem sl_beside {w w' : World} {e size n : Nat} {v : Value} {xs : List Value} {row : Option Nat} (h : Sl w e size v n xs) (hg : w.grownBy w' row) (hne : ∀ g, v.ownBlock = some g → row ≠ some g) : Sl w' e size v n xs :=
  h.keep fun g hv => hg.block g (h.lt g hv) (fun k => hne g hv k.symm)
theorem nat_of {a : Int} (h : 0 ≤ a) : ∃ x : Nat, a = x := ⟨a.toNat, by omega⟩
theorem info73 : (Try.prog.info? 73).map (fun i => (i.zero, i.size, i.bytes)) = some (some .nilIface, 1, 16) := by kernel_rfl
/-- A list of values, in memory. -/
def VL (w : World) (F : Nat → Prop) (l : List V) (s : Value) : Prop :=
  ∃ a cap, ∃ css : Nat → List Value, s = .slice a l.length cap ∧ l.length ≤ cap ∧ cap ≤ maxLen ∧ (0 < l.length → ∃ g off, a = some ⟨g, off, none⟩ ∧ g < w.heap.size ∧ F g ∧ ∀ j c u, j < l.length → (css j)[c]? = some u → w.cell? ⟨g, off + j * 5 + c, none⟩ = some u) ∧
    ∀ j (h : j < l.length), VIs w F l[j] (css j)
theorem VL.keep {w w' : World} {F F' : Nat → Prop} {l : List V} {s : Value} (h : VL w F l s) (hs : w.heap.size ≤ w'.heap.size) (hk : ∀ g, F g → g < w.heap.size → w'.heap[g]? = w.heap[g]?) (hF : ∀ g, F g → g < w.heap.size → F' g) : VL w' F' l s := by
  obtain ⟨a, cap, css, rfl, h1, h2, h3, h4⟩ := h
  refine ⟨a, cap, css, rfl, h1, h2, fun h0 => ?_, fun j hj => (h4 j hj).keep hs hk hF⟩
  obtain ⟨g, off, rfl, hg, hf, hc⟩ := h3 h0
  exact ⟨g, off, rfl, Nat.lt_of_lt_of_le hg hs, hF g hf hg, fun j c u hj hu => (World.cell?_of_block (w := w) (hk g hf hg)).trans (hc j c u hj hu)⟩
/-- What take and all come to. -/
def TakePost (r : Nat) (w : World) (res : Option I) (room : Int) (e : Ending) (w' : World) : Prop := ∃ u, e = .returned u ∧ OkI w' (w.heap.size ≤ ·) res u ∧ Blk w' r 91 #[iv room] ∧ Only [r] w w'
def TakeOk (v : V) : Prop := ∀ (w : World) (F : Nat → Prop) (cs : List Value) (r : Nat) (room : Int) (nest : Nat), VIs w F v cs → ¬ F r → Blk w r 91 #[iv room] → 0 ≤ room → room ≤ 65536 → nest ≤ 8 →
  Calls Try.prog 60 #[.pointer (some ⟨r, 0, none⟩), .agg cs.toArray, iv nest] w (TakePost r w (v.take nest room).1 (v.take nest room).2)
def AllOk (l : List V) : Prop := ∀ (w : World) (F : Nat → Prop) (s : Value) (r : Nat) (room : Int) (nest : Nat), VL w F l s → ¬ F r → Blk w r 91 #[iv room] → 0 ≤ room → room ≤ 65536 → nest ≤ 9 →
  Calls Try.prog 71 #[.pointer (some ⟨r, 0, none⟩), s, iv nest] w (if 8 < nest then TakePost r w none room else TakePost r w ((takes l nest room).1.map .list) (takes l nest room).2)
/-- Where the loop of all stands. -/
structure AllR (w wr : World) (l : List V) (nest : Nat) (room : Int) (r k : Nat) (lv : Value) (xs : List I) (rm : Int) (us : List Value) : Prop where
  eq : takes (l.take k) nest room = (some xs, rm)
  len : xs.length = k
  low : 0 ≤ rm
  high : rm ≤ 65536
  cnt : rm + k ≤ room
  sl : Sl wr 73 1 lv k us
  own : ∀ g, lv.ownBlock = some g → w.heap.size ≤ g
  items : ∀ j (h : j < xs.length), ∃ u, us[j]? = some (.iface xs[j].typ u) ∧ IIs wr (fun g => w.heap.size ≤ g ∧ lv.ownBlock ≠ some g) xs[j] u
  blk : Blk wr r 91 #[iv rm]
  only : Only [r] w wr

set_option maxRecDepth 100000 in
set_option maxHeartbeats 3200000 in
theorem all_ok (l : List V) (H : ∀ j (h : j < l.length), TakeOk l[j]) : AllOk l := by
  intro w F s r room nest hl hF hB h0 h1 hn
  obtain ⟨j73, si, sz0, sz1, sz2⟩ := info_parts info73
  obtain ⟨a, cap, css, rfl, hlen, hmax, hcell, hvs⟩ := hl
  have HB := Lib.hid hB
  have HC := Lib.hid hcell
  have HV := Lib.hid hvs
  have HH := Lib.hid H
  have hlm : l.length ≤ maxLen := by omega
  clear hB hcell hvs H
  by_cases h8 : 8 < nest
  · rw [if_pos h8]
    have h8z : (8 : Int) < (nest : Int) := by omega
    go_enter Try.func71, Try.ntmps71
    go_wp2
    exact bodyPost_ret (results_tmp rfl _ _ _) rfl ⟨.nilIface, rfl, rfl, HB.out, Only.refl _ _⟩
  rw [if_neg h8]
  have h8z : ¬ (8 : Int) < (nest : Int) := by omega
  go_enter Try.func71, Try.ntmps71
  go_wp2
  have HS0 := Lib.hid (show Sl (w.alloc (.cells #[] 73)) 73 1 (.slice (some ⟨w.heap.size, 0, none⟩) 0 0) 0 [] from ⟨rfl, .inr ⟨_, 0, 0, _, rfl, Blk.new _ _ _, Nat.le_refl _, by decide, Nat.le_refl _, rfl⟩⟩)
  go_loopw [7, 16] (fun lv z wr => ∃ (k : Nat) (xs : List I) (rm : Int) (us : List Value), k ≤ l.length ∧ z = .int .i64 k ∧ Hid (AllR w wr l nest room r k lv xs rm us)) (fun _ z _ => l.length - (intOf z).toNat)
  case atStart =>
    refine ⟨0, [], room, [], Nat.zero_le _, rfl, Lib.hid ⟨by simp [takes], rfl, h0, h1, by simp, HS0.out, fun g hg => ?_, fun j h => absurd h (Nat.not_lt_zero _), HB.out.alloc _, (Only.refl _ _).alloc _⟩⟩
    have : w.heap.size = g := by simpa [Value.ownBlock] using hg
    omega
  case round =>
    obtain ⟨k, xs, rm, us, hk, rfl, HR⟩ := hrel
    obtain ⟨la, lc, hlv, _, _⟩ := HR.out.sl.shape
    subst hlv
    by_cases hkl : k < l.length
    · have hkz : (k : Int) < (l.length : Int) := by omega
      obtain ⟨g, off, rfl, hg, hFg, hcc⟩ := HC.out (by omega)
      have hv := HV.out k hkl
      obtain ⟨c0, c1, c2, c3, c4, c5, c6, hcs⟩ := hv.five
      have hgr : g ∉ [r] := by
        intro e
        simp at e
        exact hF (e ▸ hFg)
      have hx : ∀ c u, (css k)[c]? = some u → wr.cell? ⟨g, off + k * 5 + c, none⟩ = some u := fun c u hu => (HR.out.only.cell (p := ⟨g, off + k * 5 + c, none⟩) hg hgr).trans (hcc k c u hkl hu)
      have x0 := hx 0 (iv c0) (by rw [hcs]; rfl)
      have x1 := hx 1 (iv c1) (by rw [hcs]; rfl)
      have x2 := hx 2 (fv c2) (by rw [hcs]; rfl)
      have x3 := hx 3 (.string c3) (by rw [hcs]; rfl)
      have x4 := hx 4 (.slice c4 c5 c6) (by rw [hcs]; rfl)
      rw [Nat.add_zero] at x0
      clear hx hcc HC
      go_wp2_with (refine wpList_store_blk rfl 33 (.tmp 9) (.tmp 19) rfl [iv c0, iv c1, fv c2, .string c3, .slice c4 c5 c6] rfl rfl (Blk.new _ _ _) (by kernel_rfl) (by simp) (by simp [Value.oneCell']) ?_)
      intro w1 hB1 hO1
      have hO1' : Only [r] w w1 := (HR.out.only.alloc _).trans' hO1 (fun i hi => .inr (by have := HR.out.only.size; simp at hi; omega))
      have hrl := HR.out.blk.lt
      have hBr : Blk w1 r 91 #[iv rm] := (HR.out.blk.alloc _).only hO1 (by simp; omega)
      have y0 := hB1.cell 0
      have y1 := hB1.cell 1
      have y2 := hB1.cell 2
      have y3 := hB1.cell 3
      have y4 := hB1.cell 4
      simp at y0 y1 y2 y3 y4
      have hvw : VIs w1 F l[k] (css k) := hv.only hO1' (fun g hf hm => hF (by simp at hm; exact hm ▸ hf))
      have HT := Lib.hid (HH.out k hkl w1 F (css k) r rm nest hvw hF hBr HR.out.low HR.out.high (by omega))
      rw [hcs] at HT
      clear x0 x1 x2 x3 x4
      go_wp2_with fail
      refine HT.out.mono ?_
      clear HT
      rintro e w2 ⟨u, rfl, hu, hB2, hO2⟩
      have hsp : l.take k ++ l[k] :: l.drop (k + 1) = l := by rw [List.getElem_cons_drop, List.take_append_drop]
      have hO3 : Only [r] w w2 := hO1'.trans hO2
      have HO3 := Lib.hid hO3
      have HB2 := Lib.hid hB2
      have HO13 := Lib.hid (show Only [wr.heap.size, r] wr w2 from (((Only.refl _ wr).alloc _).trans' hO1 (fun i hi => .inl (by simp at hi ⊢; exact .inl hi))).trans' hO2 (fun i hi => .inl (by simp at hi ⊢; exact .inr hi)))
      have HW1 := Lib.hid (show wr.heap.size + 1 ≤ w1.heap.size by have := hO1.size; simpa using this)
      clear hvw hO1' hO1 hB1 hBr hrl y0 y1 y2 y3 y4 hB2 hO2 hO3 hv hgr hg hFg
      cases ht : (l[k].take nest rm).1 with
      | none =>
        rw [ht] at hu
        obtain rfl : u = .nilIface := hu
        have hfin := takes_snoc_none (l.take k) l[k] nest room xs rm HR.out.eq ht (l.drop (k + 1))
        rw [hsp] at hfin
        have HF := Lib.hid hfin
        clear hfin hsp ht
        go_wp2
        exact bodyPost_ret (results_tmp rfl _ _ _) rfl ⟨.nilIface, rfl, by rw [HF.out]; rfl, by rw [HF.out]; exact HB2.out, HO3.out⟩
      | some x =>
        rw [ht] at hu
        obtain ⟨u', rfl, hx⟩ := hu
        have HX := Lib.hid hx
        have hfin := takes_snoc_some (l.take k) l[k] nest room xs rm x HR.out.eq ht
        have HF := Lib.hid hfin
        have hrm := V.take_room l[k] nest rm x ht
        generalize hgx : (l[k].take nest rm).2 = rm2 at *
        clear hfin hsp ht hgx hx
        have hcnt := HR.out.cnt
        have hwl := HR.out.only.size
        have hrw := HB.out.lt
        have hO13 := HO13.out
        have HS := Lib.hid (HR.out.sl.only hO13 (fun g hg => by
          have h2 := HR.out.own g hg
          have h3 := HR.out.sl.lt g hg
          simp
          omega))
        go_wp2_with (at_builtin; refine wpList_append_one (news := [.iface x.typ u']) rfl (.tmp 26) (.tmp 28) 112 rfl 73 j73 _ 1 16 Try.underlying112 si sz0 sz1 sz2 rfl (by decide) rfl (HS.out.alloc _) rfl (Blk.new _ _ _) rfl (by simp [Value.oneCell']) (by unfold maxLen; omega) (by omega) ?_)
        intro v3 w3 hS3 hg3 hat3
        have HI := Lib.hid (show ∀ j (h : j < (xs ++ [x]).length), ∃ u, (us ++ [Value.iface x.typ u'])[j]? = some (.iface (xs ++ [x])[j].typ u) ∧ IIs w3 (fun g => w.heap.size ≤ g ∧ v3.ownBlock ≠ some g) (xs ++ [x])[j] u from fun j hj => by
          have hlx := HR.out.len
          have hlu : us.length = k := by have := HR.out.sl.len; omega
          by_cases hjk : j < xs.length
          · obtain ⟨u0, h1, h2⟩ := HR.out.items j hjk
            rw [List.getElem_append_left hjk, List.getElem?_append_left (by omega)]
            refine ⟨u0, h1, h2.keep (Nat.le_trans hO13.size (Nat.le_trans (by simp) hg3.size)) (fun g hf hg => ?_) fun g hf hg => ⟨hf.1, fun e => ?_⟩⟩
            · exact ((hg3.block g (by have := hO13.size; simp; omega) (fun e => hf.2 e.symm)).trans (Below.heap_alloc w2 _ g (Nat.lt_of_lt_of_le hg hO13.size))).trans (hO13.block g hg (by have := hf.1; simp; omega))
            · rcases hat3 with e2 | e2
              · exact hf.2 (e2 ▸ e)
              · rw [e2] at e
                injection e with e
                have := hO13.size
                omega
          · have hje : j = xs.length := by simp at hj; omega
            subst hje
            refine ⟨u', by rw [List.getElem?_append_right (by omega)]; simp [hlx, hlu], ?_⟩
            rw [List.getElem_append_right (by omega)]
            simp only [Nat.sub_self, List.getElem_cons_zero]
            have hw1 : wr.heap.size + 1 ≤ w1.heap.size := HW1.out
            refine HX.out.keep (Nat.le_trans (by simp) hg3.size) (fun g hf hg => ?_) fun g hf hg => ⟨by omega, fun e => ?_⟩
            · exact (hg3.block g (by simp; omega) (fun e => by have := HR.out.sl.lt g e.symm; omega)).trans (Below.heap_alloc w2 _ g hg)
            · rcases hat3 with e2 | e2
              · have := HR.out.sl.lt g (e2 ▸ e)
                omega
              · rw [e2] at e
                injection e with e
                omega)
        have HRn := Lib.hid (show AllR w w3 l nest room r (k + 1) v3 (xs ++ [x]) rm2 (us ++ [Value.iface x.typ u']) from
          ⟨by rw [List.take_succ_eq_append_getElem hkl]; exact HF.out, by simp [HR.out.len], hrm.1, by have := HR.out.high; omega, by push_cast; omega, hS3,
            own_fresh HR.out.own hat3 (by have := hO13.size; simp; omega), HI.out, (hg3.block r (by have := HB2.out.lt; simp; omega) (fun e => by have := HR.out.own r e.symm; omega)).trans (HB2.out.alloc _),
            (HO3.out.alloc _).grown hg3 (fun g hg => .inr (HR.out.own g hg))⟩)
        clear HI hS3 hg3 hat3 HS HR
        go_wp2
        go_roundw
        case measure => simp [intOf]; omega
        case rel => exact ⟨k + 1, _, _, _, by omega, by go_num, HRn⟩
    · obtain rfl : k = l.length := by omega
      have hfin : (takes l nest room).1 = some xs ∧ (takes l nest room).2 = rm := by
        have := HR.out.eq
        rw [List.take_length] at this
        rw [this]
        exact ⟨rfl, rfl⟩
      have HF := Lib.hid hfin
      clear hfin
      have HI := Lib.hid (show IIs wr (w.heap.size ≤ ·) (.list xs) (.slice la l.length lc) from by
        obtain ⟨la', lc', hlv, hlc, hlm2, hfree⟩ : ∃ a c, Value.slice la l.length lc = .slice a l.length c ∧ l.length ≤ c ∧ c ≤ maxLen ∧ True := by
          rcases HR.out.sl.2 with ⟨e, e2⟩ | ⟨g, off, cap', cur, e, hh, h1, h2, _, _⟩
          · exact ⟨_, _, e.trans (by rw [e2]), by omega, by decide, trivial⟩
          · exact ⟨_, _, e, h1, h2, trivial⟩
        injection hlv with e1 _ e3
        subst e1
        subst e3
        have hlx : xs.length = l.length := HR.out.len
        rw [← hlx]
        have hus : ∀ j (h : j < xs.length), ∃ u, us[j]? = some (.iface xs[j].typ u) ∧ IIs wr (w.heap.size ≤ ·) xs[j] u := fun j h => by
          obtain ⟨u, h1, h2⟩ := HR.out.items j h
          exact ⟨u, h1, h2.mono fun g hg => hg.1⟩
        refine .list (fun j => if h : j < xs.length then (hus j h).choose else undef) (by omega) hlm2 (fun h0 => ?_) fun j h => ?_
        · obtain ⟨g, off, cap', hv, hg, _, _, hc, _⟩ := HR.out.sl.form (by omega)
          injection hv with e1 _ _
          subst e1
          refine ⟨g, off, rfl, hg, HR.out.own g rfl, fun j h => ?_⟩
          simp only [h, dif_pos]
          exact (hc j (by omega)).trans (hus j h).choose_spec.1
        · simp only [h, dif_pos]
          exact (hus j h).choose_spec.2)
      go_wp2
      refine bodyPost_ret (results_tmp rfl _ _ _) rfl ⟨.iface 112 (.slice la l.length lc), rfl, ?_, ?_, HR.out.only⟩
      · rw [HF.out.1]
        exact ⟨_, rfl, HI.out⟩
      · rw [HF.out.2]
        exact HR.out.blk
end Go.Proofs.Ytffdfegelgpniaa
