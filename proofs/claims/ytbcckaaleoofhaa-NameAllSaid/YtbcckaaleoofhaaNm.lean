/-
  NameOrder: it answers true and leaves all that was there.
-/
import Derived.Test.YtbcckaaleoofhaaNl
namespace Go.Proofs.Ytbcckaaleoofhaa
open Go.RowKit Go.Fl

theorem wf_range {a : Int} (h : (Lit.int .i64 a).wf = true) : -9223372036854775808 ≤ a ∧ a ≤ 9223372036854775807 := by
  simp [Lit.wf, IntKind.min, IntKind.max, IntKind.bits, IntKind.signed] at h
  omega

theorem seg_ne (n : Nat) (l : List UInt8) (h : l.length ≠ 24) : (seg n == l) = false := by
  rw [beq_eq_false_iff_ne]
  intro e
  rw [← e, seg_length] at h
  exact h rfl

set_option maxRecDepth 100000 in
set_option maxHeartbeats 3200000 in
theorem order_row (w : World) (a : Int) (ha : (Lit.int .i64 a).wf = true) (b : Int) (hb : (Lit.int .i64 b).wf = true) :
    Calls Try.prog 4 #[.int .i64 a, .int .i64 b] w fun e w' => e = .returned (.bool true) ∧ Only [] w w' := by
  have HB := Lib.hid (begun_ok w)
  have hra := wf_range ha
  have hrb := wf_range hb
  clear ha hb
  by_cases h : 1 ≤ a ∧ 1 ≤ b
  · obtain ⟨h1, h2⟩ := h
    obtain ⟨n, rfl⟩ : ∃ n : Nat, a = n := ⟨a.toNat, by omega⟩
    obtain ⟨m, rfl⟩ : ∃ m : Nat, b = m := ⟨b.toNat, by omega⟩
    have hn1 : 1 ≤ n := by omega
    have hn2 : n < 9223372036854775808 := by omega
    have hm1 : 1 ≤ m := by omega
    have hm2 : m < 9223372036854775808 := by omega
    have hLs := seg_less (a := n) (b := m) (by omega) (by omega)
    have hEq := seg_inj (a := n) (b := m) (by omega) (by omega)
    clear hra hrb
    go_enter Try.func4, Try.ntmps4
    go_wp2_with fail
    refine HB.out.mono ?_
    clear HB
    rintro e w1 ⟨rfl, hO1⟩
    have HO1 := Lib.hid hO1
    have HS := Lib.hid (segment_ok n w1 hn1 hn2)
    clear hO1
    go_wp2_with fail
    refine HS.out.mono ?_
    clear HS
    rintro e w2 ⟨rfl, hO2⟩
    have HO2 := Lib.hid (HO1.out.trans hO2)
    have HS := Lib.hid (segment_ok m w2 hm1 hm2)
    clear hO2
    go_wp2_with fail
    refine HS.out.mono ?_
    clear HS
    rintro e w3 ⟨rfl, hO3⟩
    have HO3 := Lib.hid (HO2.out.trans hO3)
    have HM := Lib.hid (may_ok (seg n) w3)
    rw [may_seg] at HM
    have HK := Lib.hid (kind_seg n w3 hn1 hn2)
    have HC := Lib.hid (catalog_ok w3)
    have HA := Lib.hid (anew_ok w3)
    clear hO3
    have hsz := seg_size n
    by_cases hnm : n = m
    · subst hnm
      clear hEq
      go_wp2_with fail
      refine HM.out.mono ?_
      clear HM
      rintro e w4 ⟨rfl, rfl⟩
      go_wp2_with fail
      refine HK.out.mono ?_
      clear HK
      rintro e w4 ⟨rfl, rfl⟩
      go_wp2_with fail
      refine HC.out.mono ?_
      clear HC
      rintro e w4 ⟨rfl, rfl⟩
      have hc1 : (seg n == catL) = false := seg_ne n catL (by decide)
      have hc2 : (seg n == anewL) = false := seg_ne n anewL (by decide)
      go_wp2_with fail
      refine HA.out.mono ?_
      clear HA
      rintro e w4 ⟨rfl, rfl⟩
      go_wp2
      go_ret
      exact ⟨rfl, HO3.out⟩
    · have hE2 : (seg n == seg m) = false := by rw [hEq]; simpa using hnm
      have hz : ((n : Int) == (m : Int)) = false := by simp; omega
      clear hEq hnm
      go_wp2_with fail
      refine HM.out.mono ?_
      clear HM
      rintro e w4 ⟨rfl, rfl⟩
      go_wp2_with fail
      refine HK.out.mono ?_
      clear HK
      rintro e w4 ⟨rfl, rfl⟩
      go_wp2_with fail
      refine HC.out.mono ?_
      clear HC
      rintro e w4 ⟨rfl, rfl⟩
      have hc1 : (seg n == catL) = false := seg_ne n catL (by decide)
      have hc2 : (seg n == anewL) = false := seg_ne n anewL (by decide)
      go_wp2_with fail
      refine HA.out.mono ?_
      clear HA
      rintro e w4 ⟨rfl, rfl⟩
      go_wp2
      go_ret
      exact ⟨rfl, HO3.out⟩
  · have HS : ∀ x w1, x < 1 → Hid (Calls Try.prog 12 #[.int .i64 x] w1 fun e w' => e = .returned (.tuple #[.string ⟨#[]⟩, .int .i64 1]) ∧ Only [] w1 w') := fun x w1 hx => Lib.hid (segment_bad x w1 hx)
    by_cases h1 : a < 1
    · have h3 := h1
      clear h
      go_enter Try.func4, Try.ntmps4
      go_wp2_with fail
      refine HB.out.mono ?_
      clear HB
      rintro e w1 ⟨rfl, hO1⟩
      have HO1 := Lib.hid hO1
      clear hO1
      go_wp2_with fail
      all_goals
        refine (HS _ _ (by omega)).out.mono ?_
        clear HS
        rintro e w2 ⟨rfl, hO2⟩
        have HO2 := Lib.hid (HO1.out.trans hO2)
        clear hO2
        go_wp2
        go_ret
        exact ⟨rfl, HO2.out⟩
    · have h2 : b < 1 := by omega
      clear h
      go_enter Try.func4, Try.ntmps4
      go_wp2_with fail
      refine HB.out.mono ?_
      clear HB
      rintro e w1 ⟨rfl, hO1⟩
      have HO1 := Lib.hid hO1
      clear hO1
      go_wp2_with fail
      all_goals
        refine (HS _ _ (by omega)).out.mono ?_
        clear HS
        rintro e w2 ⟨rfl, hO2⟩
        have HO2 := Lib.hid (HO1.out.trans hO2)
        clear hO2
        go_wp2
        go_ret
        exact ⟨rfl, HO2.out⟩
end Go.Proofs.Ytbcckaaleoofhaa
