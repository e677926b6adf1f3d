/-
  Clock: numbers compared; lengths of time.
-/
import Derived.Test.YtjnhplgdbdneiaaCb
import Derived.Test.YtjnhplgdbdneiaaCf
import Derived.Test.YtjnhplgdbdneiaaLex3
import Derived.Test.YtjnhplgdbdneiaaEach
import Derived.Test.YtjnhplgdbdneiaaCuts
import Derived.Test.YtjnhplgdbdneiaaRows
import Derived.Laws.Externs
import Derived.Lib.Bytealg
import Derived.StillTailTactics
import Derived.BigQuiet
import Derived.Deep.DeepCutAuto
import Derived.Deep.LoopGhost
import Derived.Deep.CutBlock
import Derived.LoopN
import Derived.WalkLawsBesides
import Derived.Deep.RegionHeld3
import Derived.Deep.RegionLaw
import Derived.Laws.Cover2
import Derived.Laws.FloatArith
import Derived.Test.YtjnhplgdbdneiaaProg
set_option linter.unusedSimpArgs false
set_option linter.unusedVariables false
namespace Go.Proofs.Ytjnhplgdbdneiaa
open Go.RowKit Go.Fl

abbrev iv (n : Int) : Value := .int .i64 n
abbrev fv (b : Nat) : Value := .float .f64 b
def cmpI (a b : Int) : Int := if a < b then -1 else if b < a then 1 else 0
/-- The order of two words, as the machine asks for it. -/
abbrev ford (x y : Nat) : Option Ordering := FloatKind.f64.format.order x y
theorem ford_rk {x y : Nat} (hx : isN x) (hy : isN y) : ford x y = some (if rk x < rk y then .lt else if rk x = rk y then .eq else .gt) := ord_rk hx hy
theorem ford_lt {x y : Nat} (hx : isN x) (hy : isN y) : (ford x y == some .lt) = decide (rk x < rk y) := by
  rw [ford_rk hx hy]
  by_cases h : rk x < rk y
  · rw [if_pos h, decide_eq_true h]; rfl
  · rw [if_neg h, decide_eq_false h]
    split <;> rfl
theorem ford_gt {x y : Nat} (hx : isN x) (hy : isN y) : (ford x y == some .gt) = decide (rk y < rk x) := by
  rw [ford_rk hx hy]
  by_cases h : rk x < rk y
  · rw [if_pos h, decide_eq_false (by omega)]; rfl
  · rw [if_neg h]
    split
    · rw [decide_eq_false (by omega)]; rfl
    · rw [decide_eq_true (by omega)]; rfl
theorem ford_eq {x y : Nat} (hx : isN x) (hy : isN y) : (ford x y == some .eq) = decide (rk x = rk y) := by
  rw [ford_rk hx hy]
  by_cases h : rk x < rk y
  · rw [if_pos h, decide_eq_false (by omega)]; rfl
  · rw [if_neg h]
    split
    · rename_i h2; rw [decide_eq_true h2]; rfl
    · rename_i h2; rw [decide_eq_false h2]; rfl
theorem ford_nan {x y : Nat} (h : ¬ isN x ∨ ¬ isN y) : ford x y = none := ord_nan h
theorem isN_zero : isN 0 := by unfold isN; decide
theorem rk_zero : rk 0 = 0 := by unfold rk; decide
theorem rk_le {x : Nat} (h : x ≤ 9218868437227405312) : rk x = x ∧ isN x := by
  unfold rk isN
  have h1 : x / 9223372036854775808 = 0 := by omega
  have h2 : x % 9223372036854775808 = x := by omega
  rw [h1, h2]
  exact ⟨rfl, h⟩
theorem rk_cases (x : Nat) : (x / 9223372036854775808 % 2 = 1 ∧ rk x = -((x % 9223372036854775808 : Nat) : Int)) ∨ (x / 9223372036854775808 % 2 = 0 ∧ rk x = ((x % 9223372036854775808 : Nat) : Int)) := by
  unfold rk
  rcases Nat.mod_two_eq_zero_or_one (x / 9223372036854775808) with h | h
  · rw [h]; exact .inr ⟨rfl, rfl⟩
  · rw [h]; exact .inl ⟨rfl, rfl⟩
/-- A length of time: without its sign, if it is 0; may it be? -/
def plV (x : Nat) : Nat := if x % 9223372036854775808 = 0 then 0 else x
instance (x : Nat) : Decidable (isN x) := inferInstanceAs (Decidable (_ ≤ _))
def plB (x : Nat) : Bool := decide (isN x ∧ 0 ≤ rk x)
theorem pl_zero (x : Nat) : (ford x 0 == some .eq) = decide (x % 9223372036854775808 = 0) := by
  by_cases hN : isN x
  · rw [ford_eq hN isN_zero, rk_zero]
    rcases rk_cases x with ⟨_, h⟩ | ⟨_, h⟩ <;> rw [h] <;> exact decide_eq_decide.2 (by omega)
  · rw [ford_nan (.inl hN)]
    unfold isN at hN
    rw [decide_eq_false (by omega)]
    rfl
theorem pl_gt (x : Nat) : (ford x 0 == some .gt) = decide (isN x ∧ 0 < rk x) := by
  by_cases hN : isN x
  · rw [ford_gt hN isN_zero, rk_zero]
    exact decide_eq_decide.2 ⟨fun h => ⟨hN, h⟩, fun h => h.2⟩
  · rw [ford_nan (.inl hN), decide_eq_false (fun h => hN h.1)]
    rfl
theorem plB_zero {x : Nat} (h : x % 9223372036854775808 = 0) : plB x = true := by
  unfold plB isN
  rcases rk_cases x with ⟨_, h1⟩ | ⟨_, h1⟩ <;> rw [h1] <;> exact decide_eq_true (by omega)
theorem plB_pos {x : Nat} (h : ¬ x % 9223372036854775808 = 0) : plB x = (ford x 0 == some .gt) := by
  rw [pl_gt]
  unfold plB
  refine decide_eq_decide.2 ⟨fun hh => ⟨hh.1, ?_⟩, fun hh => ⟨hh.1, by omega⟩⟩
  have := hh.2
  rcases rk_cases x with ⟨_, h1⟩ | ⟨_, h1⟩ <;> omega
/-- What may be is a rung. -/
theorem plB_le {x : Nat} (hx : x < 18446744073709551616) (h : plB x = true) : plV x ≤ 9218868437227405312 ∧ plV x = x % 9223372036854775808 := by
  unfold plB isN at h
  obtain ⟨h1, h2⟩ := of_decide_eq_true h
  unfold plV
  split
  · rename_i h3; omega
  · rename_i h3
    rcases rk_cases x with ⟨_, h4⟩ | ⟨_, h4⟩ <;> omega
set_option maxRecDepth 100000 in
theorem plain27 (w : World) (x : Nat) : Calls Try.prog 27 #[fv x] w fun e w' => e = .returned (.tuple #[fv (plV x), .bool (plB x)]) ∧ w' = w := by
  have hz := pl_zero x
  go_enter Try.func27, Try.ntmps27
  by_cases h : x % 9223372036854775808 = 0
  · rw [decide_eq_true h] at hz
    rw [plB_zero h]
    unfold plV
    rw [if_pos h]
    clear h
    go_wp2
    exact bodyPost_ret (results2 rfl (res_tmp rfl) (res_tmp rfl)) rfl ⟨rfl, rfl⟩
  · rw [decide_eq_false h] at hz
    rw [plB_pos h]
    unfold plV
    rw [if_neg h]
    clear h
    go_wp2
    exact bodyPost_ret (results2 rfl (res_tmp rfl) (res_tmp rfl)) rfl ⟨rfl, rfl⟩
set_option maxRecDepth 100000 in
theorem plain35 (w : World) (x : Nat) : Calls Try.prog 35 #[fv x] w fun e w' => e = .returned (.tuple #[fv (plV x), .bool (plB x)]) ∧ w' = w := by
  have hz := pl_zero x
  go_enter Try.func35, Try.ntmps35
  by_cases h : x % 9223372036854775808 = 0
  · rw [decide_eq_true h] at hz
    rw [plB_zero h]
    unfold plV
    rw [if_pos h]
    clear h
    go_wp2
    exact bodyPost_ret (results2 rfl (res_tmp rfl) (res_tmp rfl)) rfl ⟨rfl, rfl⟩
  · rw [decide_eq_false h] at hz
    rw [plB_pos h]
    unfold plV
    rw [if_neg h]
    clear h
    go_wp2
    exact bodyPost_ret (results2 rfl (res_tmp rfl) (res_tmp rfl)) rfl ⟨rfl, rfl⟩
end Go.Proofs.Ytjnhplgdbdneiaa
