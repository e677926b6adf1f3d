/-
  Values: floating numbers: keys, canonical ones; texts.
-/
import Derived.Test.YtffdfegelgpniaaVa
import Derived.Laws.Bits64b
import Derived.Deep.DeepCutAuto
set_option linter.unusedSimpArgs false
set_option linter.unusedVariables false
namespace Go.Proofs.Ytffdfegelgpniaa
open Go.RowKit Go.Fl

set_option maxRecDepth 100000 in
theorem strcmp (w : World) (a b : ByteArray) : Calls Try.prog 124 #[.string a, .string b] w fun e w' => e = .returned (iv (Lib.compareBytes a.data.toList b.data.toList)) ∧ w' = w := by
  have h : ∀ w, Calls Try.prog 125 #[.string a, .string b] w fun e w' => e = .returned (iv (Lib.compareBytes a.data.toList b.data.toList)) ∧ w' = w := fun w => by
    have e := e126
    go_enter Try.func125, Try.ntmps125
    go_wp2
    exact bodyPost_ret (results_tmp rfl _ _ _) rfl ⟨rfl, rfl⟩
  go_enter Try.func124, Try.ntmps124
  go_wp2_with fail
  refine (h w).mono ?_
  rintro e w1 ⟨rfl, rfl⟩
  go_wp2
  exact bodyPost_ret (results_tmp rfl _ _ _) rfl ⟨rfl, rfl⟩
/-! Bits of 64-bit numbers. -/
theorem xor63 {r : Nat} (h : r < 9223372036854775808) : r ^^^ 9223372036854775808 = r + 9223372036854775808 := by
  have h1 : 2 ^ 63 * 1 + r = 2 ^ 63 * 1 ||| r := Nat.two_pow_add_eq_or_of_lt (by omega) 1
  have h2 : r + 9223372036854775808 = 2 ^ 63 ||| r := by
    rw [Nat.mul_one] at h1
    rw [← h1]
    omega
  rw [h2]
  show r ^^^ 2 ^ 63 = 2 ^ 63 ||| r
  apply Nat.eq_of_testBit_eq
  intro i
  rw [Nat.testBit_xor, Nat.testBit_or, Nat.testBit_two_pow]
  by_cases hi : 63 = i
  · subst hi
    rw [Nat.testBit_lt_two_pow (by omega)]
    rfl
  · simp [hi]
theorem bits_top {x : Nat} (h : x < 18446744073709551616) : bits .xor .u64 (x : Int) 9223372036854775808 = (((x + 9223372036854775808) % 18446744073709551616 : Nat) : Int) := by
  have e := bits_xor_u64_nat x 9223372036854775808 h (by omega)
  rw [show ((9223372036854775808 : Nat) : Int) = (9223372036854775808 : Int) from rfl] at e
  rw [e]
  refine congrArg (Nat.cast : Nat → Int) ?_
  by_cases hx : x < 9223372036854775808
  · rw [xor63 hx]; omega
  · have h1 : x = (x - 9223372036854775808) ^^^ 9223372036854775808 := by rw [xor63 (by omega)]; omega
    rw [h1, Nat.xor_assoc, Nat.xor_self, Nat.xor_zero, ← h1]
    omega
theorem bits_not {x : Nat} (h : x < 18446744073709551616) : bits .xor .u64 IntKind.u64.max (x : Int) = ((18446744073709551615 - x : Nat) : Int) := by
  have e := bits_xor_u64_nat 18446744073709551615 x (by omega) h
  rw [show ((18446744073709551615 : Nat) : Int) = IntKind.u64.max from by kernel_rfl] at e
  rw [e]
  refine congrArg (Nat.cast : Nat → Int) ?_
  have h1 : (BitVec.allOnes 64 ^^^ BitVec.ofNat 64 x).toNat = (~~~ (BitVec.ofNat 64 x)).toNat := by rw [BitVec.allOnes_xor]
  rw [BitVec.toNat_xor, BitVec.toNat_not, BitVec.toNat_allOnes, BitVec.toNat_ofNat, Nat.mod_eq_of_lt (by omega)] at h1
  exact h1
theorem bits_ortop {x : Nat} (h : x < 9223372036854775808) : bits .or .u64 (x : Int) 9223372036854775808 = (x : Int) + 9223372036854775808 := by
  have e := bits_or_u64_nat x 9223372036854775808 (by omega) (by omega)
  rw [show ((9223372036854775808 : Nat) : Int) = (9223372036854775808 : Int) from rfl] at e
  rw [e]
  have h1 : 2 ^ 63 * 1 + x = 2 ^ 63 * 1 ||| x := Nat.two_pow_add_eq_or_of_lt (by omega) 1
  rw [Nat.mul_one, Nat.or_comm] at h1
  rw [show x ||| 9223372036854775808 = x + 9223372036854775808 by
    show x ||| 2 ^ 63 = _
    rw [← h1]; omega]
  omega
theorem bits_low {x : Nat} (h : x < 18446744073709551616) : bits .and .u64 (x : Int) 9223372036854775807 = ((x % 9223372036854775808 : Nat) : Int) := by
  have e := bits_and_u64_nat x 9223372036854775807 h (by omega)
  rw [show ((9223372036854775807 : Nat) : Int) = (9223372036854775807 : Int) from rfl] at e
  rw [e]
  refine congrArg (Nat.cast : Nat → Int) ?_
  exact Nat.and_two_pow_sub_one_eq_mod x 63
theorem bits_notop {x : Nat} (h : x < 18446744073709551616) : bits .andNot .u64 (x : Int) 9223372036854775808 = ((x % 9223372036854775808 : Nat) : Int) := by
  have h1 : (BitVec.ofInt 64 (x : Int)).toNat = x := by
    rw [BitVec.ofInt_natCast, BitVec.toNat_ofNat]; exact Nat.mod_eq_of_lt (by omega)
  show IntKind.u64.wrap ((BitVec.ofInt 64 (x : Int) &&& ~~~ BitVec.ofInt 64 9223372036854775808).toNat : Int) = _
  rw [BitVec.toNat_and, h1, IntKind.wrap_u64, show (~~~ BitVec.ofInt 64 9223372036854775808).toNat = 2 ^ 63 - 1 by decide, Nat.and_two_pow_sub_one_eq_mod]
  have : x % 2 ^ 63 < 2 ^ 63 := Nat.mod_lt _ (by decide)
  omega
theorem keyR_lt {b : Nat} (hb : b < 18446744073709551616) : keyR b < 18446744073709551616 := by
  unfold keyR
  split
  · omega
  · split <;> omega
set_option maxRecDepth 100000 in
theorem realKey (w : World) (b : Nat) (hb : b < 18446744073709551616) : Calls Try.prog 115 #[fv b] w fun e w' => e = .returned (.int .u64 (keyR b)) ∧ w' = w := by
  have e := e59
  have hn := nan_neq b
  unfold keyR
  by_cases h1 : nanB b = true
  · rw [if_pos h1]
    rw [h1] at hn
    go_enter Try.func115, Try.ntmps115
    go_wp2
    exact bodyPost_ret (results_tmp rfl _ _ _) rfl ⟨rfl, rfl⟩
  · rw [if_neg h1]
    have h1' : nanB b = false := by simpa using h1
    rw [h1'] at hn
    by_cases h2 : 9223372036854775808 ≤ b
    · rw [if_pos h2]
      have h2z : (9223372036854775808 : Int) ≤ (b : Int) := by omega
      go_enter Try.func115, Try.ntmps115
      go_wp2
      exact bodyPost_ret (results_tmp rfl _ _ _) rfl ⟨by simp [bits_not hb], rfl⟩
    · rw [if_neg h2]
      have h2z : ¬ (9223372036854775808 : Int) ≤ (b : Int) := by omega
      go_enter Try.func115, Try.ntmps115
      go_wp2
      exact bodyPost_ret (results_tmp rfl _ _ _) rfl ⟨by simp [bits_ortop (show b < 9223372036854775808 by omega)], rfl⟩
set_option maxRecDepth 100000 in
theorem realCmp (w : World) (a b : Nat) (ha : a < 18446744073709551616) (hb : b < 18446744073709551616) : Calls Try.prog 114 #[fv a, fv b] w fun e w' => e = .returned (iv (cmpI (keyR a) (keyR b))) ∧ w' = w := by
  go_enter Try.func114, Try.ntmps114
  go_wp2_with fail
  refine (realKey w a ha).mono ?_
  rintro e w1 ⟨rfl, rfl⟩
  go_wp2_with fail
  refine (realKey _ b hb).mono ?_
  rintro e w1 ⟨rfl, rfl⟩
  go_wp2_with fail
  refine (cmp117 _ _ _).mono ?_
  rintro e w1 ⟨rfl, rfl⟩
  go_wp2
  exact bodyPost_ret (results_tmp rfl _ _ _) rfl ⟨rfl, rfl⟩
/-- The one NaN. -/
def canR (b : Nat) : Nat := if nanB b = true then 9221120237041090561 else b
set_option maxRecDepth 100000 in
theorem none69 (w : World) : Calls Try.prog 69 #[] w fun e w' => e = .returned (fv 9221120237041090561) ∧ w' = w := by
  have e := e70
  go_enter Try.func69, Try.ntmps69
  go_wp2
  exact bodyPost_ret (results_tmp rfl _ _ _) rfl ⟨rfl, rfl⟩
set_option maxRecDepth 100000 in
theorem realCanon (w : World) (b : Nat) : Calls Try.prog 116 #[fv b] w fun e w' => e = .returned (fv (canR b)) ∧ w' = w := by
  have hn := nan_neq b
  unfold canR
  by_cases h1 : nanB b = true
  · rw [if_pos h1]
    rw [h1] at hn
    go_enter Try.func116, Try.ntmps116
    go_wp2_with fail
    refine (none69 _).mono ?_
    rintro e w1 ⟨rfl, rfl⟩
    go_wp2
    exact bodyPost_ret (results_tmp rfl _ _ _) rfl ⟨rfl, rfl⟩
  · rw [if_neg h1]
    have h1' : nanB b = false := by simpa using h1
    rw [h1'] at hn
    go_enter Try.func116, Try.ntmps116
    go_wp2
    exact bodyPost_ret (results_tmp rfl _ _ _) rfl ⟨rfl, rfl⟩
/-- The number of a key; none: there is none. -/
def unkeyR (k : Nat) : Option Nat :=
  if k = 18446744073709551615 then some 9221120237041090561
  else if 18442240474082181120 < k ∨ k < 4503599627370495 then none
  else if 9223372036854775808 ≤ k then some (k - 9223372036854775808) else some (18446744073709551615 - k)
def unkeyV : Option Nat → Value
  | none => .tuple #[fv 0, .bool false]
  | some b => .tuple #[fv b, .bool true]
set_option maxRecDepth 100000 in
theorem realUnkey (w : World) (k : Nat) (hk : k < 18446744073709551616) : Calls Try.prog 51 #[.int .u64 k] w fun e w' => e = .returned (unkeyV (unkeyR k)) ∧ w' = w := by
  have e := e70
  unfold unkeyR
  by_cases h0 : k = 18446744073709551615
  · rw [if_pos h0]
    subst h0
    go_enter Try.func51, Try.ntmps51
    go_wp2_with fail
    refine (none69 _).mono ?_
    rintro e w1 ⟨rfl, rfl⟩
    go_wp2
    exact bodyPost_ret (v := unkeyV (some 9221120237041090561)) (results2 rfl (res_tmp rfl) (res_tmp rfl)) rfl ⟨rfl, rfl⟩
  · rw [if_neg h0]
    have h0z : ((k : Int) == 18446744073709551615) = false := by rw [beq_eq_false_iff_ne]; omega
    by_cases h2 : 9223372036854775808 ≤ k
    · have h2z : ¬ (k : Int) < 9223372036854775808 := by omega
      have b1 := bits_notop hk
      have b2 := bits_notop (x := k % 9223372036854775808) (by omega)
      rw [Nat.mod_mod] at b2
      obtain ⟨m, hm⟩ : ∃ m, m = k % 9223372036854775808 := ⟨_, rfl⟩
      rw [← hm] at b1 b2
      have HM := Lib.hid (show m = k - 9223372036854775808 by omega)
      by_cases h1 : 18442240474082181120 < k
      · rw [if_pos (.inl h1)]
        have h3 : (9218868437227405312 : Int) < (m : Int) := by omega
        clear hm
        go_enter Try.func51, Try.ntmps51
        go_wp2
        exact bodyPost_ret (v := unkeyV none) (results2 rfl (res_tmp rfl) (res_tmp rfl)) rfl ⟨rfl, rfl⟩
      · rw [if_neg (by omega), if_pos h2]
        have h3 : ¬ (9218868437227405312 : Int) < (m : Int) := by omega
        clear hm
        go_enter Try.func51, Try.ntmps51
        go_wp2
        refine bodyPost_ret (v := unkeyV (some (k - 9223372036854775808))) (results2 rfl (res_tmp ?_) (res_tmp rfl)) rfl ⟨rfl, rfl⟩
        rw [← HM.out]
        rfl
    · have h2z : (k : Int) < 9223372036854775808 := by omega
      have b0 := bits_not hk
      have b2 := bits_notop (x := 18446744073709551615 - k) (by omega)
      obtain ⟨c, hc⟩ : ∃ c, c = 18446744073709551615 - k := ⟨_, rfl⟩
      rw [← hc] at b0 b2
      obtain ⟨m, hm⟩ : ∃ m, m = c % 9223372036854775808 := ⟨_, rfl⟩
      rw [← hm] at b2
      have HM := Lib.hid (show m = 9223372036854775807 - k by omega)
      have B0 := Lib.hid b0
      clear b0
      have b1 := bits_notop hk
      rw [show k % 9223372036854775808 = k by omega] at b1
      by_cases h1 : k < 4503599627370495
      · rw [if_pos (.inr h1)]
        have h3 : (9218868437227405312 : Int) < (m : Int) := by omega
        clear hm hc h1 h2 h0 hk
        go_enter Try.func51, Try.ntmps51
        go_upto_region 6 with fail
        rw [show (bits .xor .u64 (if IntKind.u64.signed = true then -1 else IntKind.u64.max) (k : Int)) = (c : Int) from B0.out]
        go_wp2
        exact bodyPost_ret (v := unkeyV none) (results2 rfl (res_tmp rfl) (res_tmp rfl)) rfl ⟨rfl, rfl⟩
      · rw [if_neg (by omega), if_neg h2, ← hc]
        have h3 : ¬ (9218868437227405312 : Int) < (m : Int) := by omega
        clear hm hc h1 h2 h0 hk
        go_enter Try.func51, Try.ntmps51
        go_upto_region 6 with fail
        rw [show (bits .xor .u64 (if IntKind.u64.signed = true then -1 else IntKind.u64.max) (k : Int)) = (c : Int) from B0.out]
        go_wp2
        exact bodyPost_ret (v := unkeyV (some c)) (results2 rfl (res_tmp rfl) (res_tmp rfl)) rfl ⟨rfl, rfl⟩
end Go.Proofs.Ytffdfegelgpniaa
