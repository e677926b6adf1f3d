/-
  Clock: the library's comparisons.
-/
import Derived.Test.YtjnhplgdbdneiaaDa
set_option linter.unusedSimpArgs false
set_option linter.unusedVariables false
namespace Go.Proofs.Ytjnhplgdbdneiaa
open Go.RowKit Go.Fl

theorem e43 (b : Nat) (w : World) : (callFunc 43 #[.float .f64 b]).run Try.prog w = .ok (.value (.int .u64 b)) w := by
  rw [run_callFunc_extern Try.func43 (by kernel_rfl) (by kernel_rfl) (by kernel_rfl) (e := Extern.MathFloatBits.float64bits) (by kernel_rfl)]
  rfl
theorem e10 (n : Int) (w : World) : (callFunc 10 #[.int .u64 n]).run Try.prog w = .ok (.value (.float .f64 n.toNat)) w := by
  rw [run_callFunc_extern Try.func10 (by kernel_rfl) (by kernel_rfl) (by kernel_rfl) (e := Extern.MathFloatBits.float64frombits) (by kernel_rfl)]
  rfl
set_option maxRecDepth 100000 in
theorem cmp49 (w : World) (a b : Int) : Calls Try.prog 49 #[.int .i64 a, .int .i64 b] w fun e w' => e = .returned (iv (cmpI a b)) ∧ w' = w := by
  have hn : ∀ (a : Int) (w : World), Calls Try.prog 62 #[.int .i64 a] w fun e w' => e = .returned (.bool false) ∧ w' = w := fun a w => by
    go_enter Try.func62, Try.ntmps62
    go_wp2
    exact bodyPost_ret (results_tmp rfl _ _ _) rfl ⟨by simp, rfl⟩
  unfold cmpI
  by_cases h1 : a < b
  · rw [if_pos h1]
    go_enter Try.func49, Try.ntmps49
    go_wp2_with fail
    refine (hn a w).mono ?_
    rintro e w1 ⟨rfl, rfl⟩
    go_wp2_with fail
    refine (hn b _).mono ?_
    rintro e w1 ⟨rfl, rfl⟩
    go_wp2
    exact bodyPost_ret (results_tmp rfl _ _ _) rfl ⟨rfl, rfl⟩
  · rw [if_neg h1]
    by_cases h2 : b < a
    · rw [if_pos h2]
      go_enter Try.func49, Try.ntmps49
      go_wp2_with fail
      refine (hn a w).mono ?_
      rintro e w1 ⟨rfl, rfl⟩
      go_wp2_with fail
      refine (hn b _).mono ?_
      rintro e w1 ⟨rfl, rfl⟩
      go_wp2
      exact bodyPost_ret (results_tmp rfl _ _ _) rfl ⟨rfl, rfl⟩
    · rw [if_neg h2]
      go_enter Try.func49, Try.ntmps49
      go_wp2_with fail
      refine (hn a w).mono ?_
      rintro e w1 ⟨rfl, rfl⟩
      go_wp2_with fail
      refine (hn b _).mono ?_
      rintro e w1 ⟨rfl, rfl⟩
      go_wp2
      exact bodyPost_ret (results_tmp rfl _ _ _) rfl ⟨rfl, rfl⟩
set_option maxRecDepth 100000 in
theorem cmp48 (w : World) (x y : Nat) (hx : x ≤ 9218868437227405312) (hy : y ≤ 9218868437227405312) : Calls Try.prog 48 #[fv x, fv y] w fun e w' => e = .returned (iv (cmpI x y)) ∧ w' = w := by
  have hn : ∀ (x : Nat) (w : World), x ≤ 9218868437227405312 → Calls Try.prog 61 #[fv x] w fun e w' => e = .returned (.bool false) ∧ w' = w := fun x w hx => by
    have h1 := ford_eq (rk_le hx).2 (rk_le hx).2
    rw [decide_eq_true rfl] at h1
    go_enter Try.func61, Try.ntmps61
    go_wp2
    exact bodyPost_ret (results_tmp rfl _ _ _) rfl ⟨by simp [bne, h1], rfl⟩
  have HL := ford_lt (rk_le hx).2 (rk_le hy).2
  have HG := ford_gt (rk_le hx).2 (rk_le hy).2
  rw [(rk_le hx).1, (rk_le hy).1] at HL HG
  unfold cmpI
  by_cases h1 : (x : Int) < y
  · rw [if_pos h1]
    rw [decide_eq_true h1] at HL
    go_enter Try.func48, Try.ntmps48
    go_wp2_with fail
    refine (hn x w hx).mono ?_
    rintro e w1 ⟨rfl, rfl⟩
    go_wp2_with fail
    refine (hn y _ hy).mono ?_
    rintro e w1 ⟨rfl, rfl⟩
    go_wp2
    exact bodyPost_ret (results_tmp rfl _ _ _) rfl ⟨rfl, rfl⟩
  · rw [if_neg h1]
    rw [decide_eq_false h1] at HL
    by_cases h2 : (y : Int) < x
    · rw [if_pos h2]
      rw [decide_eq_true h2] at HG
      go_enter Try.func48, Try.ntmps48
      go_wp2_with fail
      refine (hn x w hx).mono ?_
      rintro e w1 ⟨rfl, rfl⟩
      go_wp2_with fail
      refine (hn y _ hy).mono ?_
      rintro e w1 ⟨rfl, rfl⟩
      go_wp2
      exact bodyPost_ret (results_tmp rfl _ _ _) rfl ⟨rfl, rfl⟩
    · rw [if_neg h2]
      rw [decide_eq_false h2] at HG
      go_enter Try.func48, Try.ntmps48
      go_wp2_with fail
      refine (hn x w hx).mono ?_
      rintro e w1 ⟨rfl, rfl⟩
      go_wp2_with fail
      refine (hn y _ hy).mono ?_
      rintro e w1 ⟨rfl, rfl⟩
      go_wp2
      exact bodyPost_ret (results_tmp rfl _ _ _) rfl ⟨rfl, rfl⟩
/-- The first that is not 0. -/
def orI (a b : Int) : Int := if a ≠ 0 then a else b
set_option maxRecDepth 100000 in
theorem or47 (w : World) (g : Nat) (a b : Int) (ha : w.cell? ⟨g, 0, none⟩ = some (iv a)) (hb : w.cell? ⟨g, 1, none⟩ = some (iv b)) :
    Calls Try.prog 47 #[.slice (some ⟨g, 0, none⟩) 2 2] w fun e w' => e = .returned (iv (orI a b)) ∧ w' = w := by
  obtain ⟨c, hc⟩ : ∃ c, orI a b = c := ⟨_, rfl⟩
  rw [hc]
  have HC := Lib.hid hc
  clear hc
  go_enter Try.func47, Try.ntmps47
  go_wp2
  go_loopw [8] (fun z wr => ∃ k : Nat, k ≤ 2 ∧ z = .int .i64 k ∧ Hid ((0 < k → a = 0) ∧ (1 < k → b = 0)) ∧ wr = w) (fun z _ => 2 - (intOf z).toNat)
  case atStart => exact ⟨0, by omega, rfl, Lib.hid ⟨fun h => by omega, fun h => by omega⟩, rfl⟩
  case round =>
    obtain ⟨k, hk, rfl, HH, rfl⟩ := hrel
    have hcs : k = 0 ∨ k = 1 ∨ k = 2 := by omega
    rcases hcs with rfl | rfl | rfl
    · by_cases h0 : a = 0
      · have HA := Lib.hid h0
        go_wp2
        go_roundw
        case measure => simp [intOf]
        case rel => exact ⟨1, by omega, rfl, Lib.hid ⟨fun _ => HA.out, fun h => by omega⟩, trivial⟩
      · have HE := Lib.hid (show iv a = iv c by rw [← HC.out]; unfold orI; rw [if_pos h0])
        go_wp2
        exact bodyPost_ret (results_tmp rfl _ _ _) rfl ⟨by show Ending.returned (iv a) = _; rw [HE.out], rfl⟩
    · have HA := Lib.hid (HH.out.1 (by omega))
      by_cases h0 : b = 0
      · have HB := Lib.hid h0
        go_wp2
        go_roundw
        case measure => simp [intOf]
        case rel => exact ⟨2, by omega, rfl, Lib.hid ⟨fun _ => HA.out, fun _ => HB.out⟩, trivial⟩
      · have HE := Lib.hid (show iv b = iv c by rw [← HC.out]; unfold orI; rw [if_neg (by simp [HA.out])])
        go_wp2
        exact bodyPost_ret (results_tmp rfl _ _ _) rfl ⟨by show Ending.returned (iv b) = _; rw [HE.out], rfl⟩
    · have HE := Lib.hid (show iv 0 = iv c by rw [← HC.out]; unfold orI; rw [if_neg (by simp [HH.out.1 (by omega)]), HH.out.2 (by omega)])
      go_wp2
      exact bodyPost_ret (results_tmp rfl _ _ _) rfl ⟨by show Ending.returned (iv 0) = _; rw [HE.out], rfl⟩
theorem inf_gt {x : Nat} (hx : x < 18446744073709551616) : (ford x 9218868437227405311 == some .gt) = decide (x = 9218868437227405312) := by
  have hm := rk_le (x := 9218868437227405311) (by decide)
  by_cases hN : isN x
  · rw [ford_gt hN hm.2, hm.1]
    unfold isN at hN
    rcases rk_cases x with ⟨_, h⟩ | ⟨_, h⟩ <;> rw [h] <;> exact decide_eq_decide.2 (by omega)
  · rw [ford_nan (.inl hN)]
    unfold isN at hN
    rw [decide_eq_false (by omega)]
    rfl
set_option maxRecDepth 100000 in
theorem inf11 (w : World) (x : Nat) (hx : x < 18446744073709551616) : Calls Try.prog 11 #[fv x, iv 1] w fun e w' => e = .returned (.bool (decide (x = 9218868437227405312))) ∧ w' = w := by
  rw [← inf_gt hx]
  go_enter Try.func11, Try.ntmps11
  go_wp2
  exact bodyPost_ret (results_tmp rfl _ _ _) rfl ⟨rfl, rfl⟩
set_option maxRecDepth 100000 in
theorem bits41 (w : World) (x y : Nat) : Calls Try.prog 41 #[fv x, fv y] w fun e w' => e = .returned (.bool (decide (x = y))) ∧ w' = w := by
  have e := e43
  go_enter Try.func41, Try.ntmps41
  go_wp2
  exact bodyPost_ret (results_tmp rfl _ _ _) rfl ⟨by
    show Ending.returned (.bool ((x : Int) == (y : Int))) = _
    rw [show ((x : Int) == (y : Int)) = decide (x = y) by rw [Bool.eq_iff_iff, beq_iff_eq, decide_eq_true_iff]; omega], rfl⟩
end Go.Proofs.Ytjnhplgdbdneiaa
