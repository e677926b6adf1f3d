/-
  Clock: down the heap.
-/
import Derived.Test.YtjnhplgdbdneiaaDf
set_option linter.unusedSimpArgs false
set_option linter.unusedVariables false
namespace Go.Proofs.Ytjnhplgdbdneiaa
open Go.RowKit Go.Fl

theorem swp_swp (l : List Tm) (i j : Nat) : swp l i j = (l.set i (l.getD j (0, 0))).set j (l.getD i (0, 0)) := rfl
set_option maxRecDepth 100000 in
set_option maxHeartbeats 3200000 in
theorem down44 (w : World) {r now : Nat} {last : Int} {l : List Tm} {g off cap N : Nat} (h : CK w r now last l (.slice (some ⟨g, off, none⟩) N cap)) (hN : l.length = N) {i n : Nat} (hi : i ≤ N) (hn : n ≤ N) (hmx : N ≤ 1048577) :
    Calls Try.prog 44 #[hpI r, iv i, iv n] w fun e w' => e = .returned (.bool (decide (i < (hdn l i n).2))) ∧ CK w' r now last (hdn l i n).1 (.slice (some ⟨g, off, none⟩) N cap) ∧ Only [g] w w' := by
  have H := Lib.hid h
  have HM := Lib.hid hmx
  have HJ0 := Lib.hid (And.intro hi (And.intro hn hN))
  clear h hi hn hmx hN
  go_enter Try.func44, Try.ntmps44
  go_wp2
  go_loopw [7] (fun z wr => ∃ (k : Nat) (m : List Tm), z = .int .i64 k ∧ Hid (k ≤ N ∧ n ≤ N ∧ m.length = N) ∧ Hid (CK wr r now last m (.slice (some ⟨g, off, none⟩) N cap)) ∧ Hid (hdn m k n = hdn l i n) ∧ Hid (Only [g] w wr)) (fun z _ => n - (intOf z).toNat)
  case atStart => exact ⟨i, l, rfl, HJ0, H, Lib.hid rfl, Lib.hid (Only.refl _ _)⟩
  case round =>
    obtain ⟨k, m, rfl, HK, HC, HU, HO⟩ := hrel
    have e1 : wrap64 (2 * (k : Int)) = 2 * (k : Int) := by have h1 := HK.out.1; have h2 := HM.out; unfold wrap64; omega
    obtain ⟨c1, hc1⟩ : ∃ c1, c1 = 2 * k + 1 := ⟨_, rfl⟩
    obtain ⟨c2, hc2⟩ : ∃ c2, c2 = 2 * k + 2 := ⟨_, rfl⟩
    have e2 : wrap64 (2 * (k : Int) + 1) = (c1 : Int) := by have h1 := HK.out.1; have h2 := HM.out; unfold wrap64; omega
    have e3 : wrap64 ((c1 : Int) + 1) = (c2 : Int) := by have h1 := HK.out.1; have h2 := HM.out; unfold wrap64; omega
    have e4 : ¬ (c1 : Int) < 0 := by omega
    by_cases hd : n ≤ c1
    · have hdz : (n : Int) ≤ (c1 : Int) := by omega
      have HE := Lib.hid (show k = (hdn l i n).2 by
        have e := HU.out
        rw [hdn, dif_neg (by omega)] at e
        rw [← e])
      have HE2 := Lib.hid (show m = (hdn l i n).1 by
        have e := HU.out
        rw [hdn, dif_neg (by omega)] at e
        rw [← e])
      clear hc1 hc2 hd
      have HD := Lib.hid (show decide (i < k) = decide (i < (hdn l i n).2) by rw [← HE.out])
      go_wp2
      refine bodyPost_ret (results_tmp rfl _ _ _) rfl ⟨by
        show Ending.returned (.bool (decide (i < k))) = _
        rw [HD.out], ?_, HO.out⟩
      rw [← HE2.out]
      exact HC.out
    have hdz : ¬ (n : Int) ≤ (c1 : Int) := by omega
    by_cases hd2 : c2 < n
    · have hd2z : (c2 : Int) < (n : Int) := by omega
      have x0 := HC.out.blk.cell 3
      simp at x0
      have hm := m_Less x0
      have HQ := Lib.hid (less86 wr (HC.out.sl' HK.out.2.2) HK.out.2.2 HC.out.le (i := c2) (j := c1) (by have := HK.out; omega) (by have := HK.out; omega))
      have HZ := Lib.hid (And.intro hc1 (And.intro hc2 hd2))
      clear hc1 hc2 hd hd2
      go_wp2_with fail
      refine HQ.out.mono ?_
      clear HQ hm x0
      rintro e w2 ⟨rfl, ho⟩
      have HC0 := Lib.hid (HC.out.only0 ho)
      have HO0 := Lib.hid (HO.out.trans (ho.mono (by simp)))
      clear ho HC HO
      have HC := HC0
      have HO := HO0
      clear HC0 HO0
      cases hb : tlt (m.getD c2 (0, 0)) (m.getD c1 (0, 0))
      · have HKID := Lib.hid (show kid m k n = c1 by
          obtain ⟨h1, h2, h3⟩ := HZ.out
          unfold kid
          rw [if_neg (by rw [← h2, ← h1, hb]; simp), ← h1])
        have HJ := Lib.hid (show c1 < n ∧ k < c1 ∧ 2 * k + 1 < n by obtain ⟨h1, h2, h3⟩ := HZ.out; omega)
        clear hb
        have x0 := HC.out.blk.cell 3
        simp at x0
        have hm := m_Less x0
        have hcs := m_Swap x0
        have HQ := Lib.hid (less86 _ (HC.out.sl' HK.out.2.2) HK.out.2.2 HC.out.le (i := c1) (j := k) (by have := HJ.out; have := HK.out; omega) (by have := HJ.out; have := HK.out; omega))
        clear hcs
        go_wp2_with fail
        refine HQ.out.mono ?_
        clear HQ hm x0
        rintro e w3 ⟨rfl, ho⟩
        have HC3 := Lib.hid (HC.out.only0 ho)
        have HO3 := Lib.hid (HO.out.trans (ho.mono (by simp)))
        clear ho HC HO
        cases ht : tlt (m.getD c1 (0, 0)) (m.getD k (0, 0))
        · have HT := Lib.hid ht
          have HE := Lib.hid (show k = (hdn l i n).2 by
            have e := HU.out
            rw [hdn, dif_neg (by rw [HKID.out, HT.out]; simp)] at e
            rw [← e])
          have HE2 := Lib.hid (show m = (hdn l i n).1 by
            have e := HU.out
            rw [hdn, dif_neg (by rw [HKID.out, HT.out]; simp)] at e
            rw [← e])
          have HC := HC3
          have HO := HO3
          have HD := Lib.hid (show decide (i < k) = decide (i < (hdn l i n).2) by rw [← HE.out])
          go_wp2
          refine bodyPost_ret (results_tmp rfl _ _ _) rfl ⟨by
            show Ending.returned (.bool (decide (i < k))) = _
            rw [HD.out], ?_, HO.out⟩
          rw [← HE2.out]
          exact HC.out
        · have HT := Lib.hid ht
          have x0 := HC3.out.blk.cell 3
          simp at x0
          have hm := m_Swap x0
          have HQ := Lib.hid (swap87 w3 (HC3.out.sl' HK.out.2.2) HK.out.2.2 (i := k) (j := c1) (by have := HJ.out; have := HK.out; omega) (by have := HJ.out; have := HK.out; omega))
          go_wp2_with fail
          refine HQ.out.mono ?_
          clear HQ hm x0
          rintro e w4 ⟨rfl, hS, ho⟩
          have HC4 := Lib.hid (HC3.out.swap HK.out.2.2 (by have := HJ.out; have := HK.out; omega) (by have := HJ.out; have := HK.out; omega) hS ho)
          have HO4 := Lib.hid (HO3.out.trans ho)
          clear hS ho HC3 HO3
          have HU2 := Lib.hid (show hdn (swp m k c1) c1 n = hdn l i n by
            have e := HU.out
            rw [hdn, dif_pos ⟨by have := HJ.out; omega, by rw [HKID.out]; exact HT.out⟩, HKID.out] at e
            exact e)
          have HK2 := Lib.hid (show c1 ≤ N ∧ n ≤ N ∧ (swp m k c1).length = N by rw [swp_len]; have := HJ.out; have := HK.out; omega)
          clear ht
          go_wp2
          go_roundw
          case measure => have := HJ.out; simp [intOf]; omega
          case rel => exact ⟨c1, _, rfl, HK2, HC4, HU2, HO4⟩
      · have HKID := Lib.hid (show kid m k n = c2 by
          obtain ⟨h1, h2, h3⟩ := HZ.out
          unfold kid
          rw [if_pos ⟨by omega, by rw [← h2, ← h1]; exact hb⟩, ← h2])
        have HJ := Lib.hid (show c2 < n ∧ k < c2 ∧ 2 * k + 1 < n by obtain ⟨h1, h2, h3⟩ := HZ.out; omega)
        clear hb
        have x0 := HC.out.blk.cell 3
        simp at x0
        have hm := m_Less x0
        have hcs := m_Swap x0
        have HQ := Lib.hid (less86 _ (HC.out.sl' HK.out.2.2) HK.out.2.2 HC.out.le (i := c2) (j := k) (by have := HJ.out; have := HK.out; omega) (by have := HJ.out; have := HK.out; omega))
        clear hcs
        go_wp2_with fail
        refine HQ.out.mono ?_
        clear HQ hm x0
        rintro e w3 ⟨rfl, ho⟩
        have HC3 := Lib.hid (HC.out.only0 ho)
        have HO3 := Lib.hid (HO.out.trans (ho.mono (by simp)))
        clear ho HC HO
        cases ht : tlt (m.getD c2 (0, 0)) (m.getD k (0, 0))
        · have HT := Lib.hid ht
          have HE := Lib.hid (show k = (hdn l i n).2 by
            have e := HU.out
            rw [hdn, dif_neg (by rw [HKID.out, HT.out]; simp)] at e
            rw [← e])
          have HE2 := Lib.hid (show m = (hdn l i n).1 by
            have e := HU.out
            rw [hdn, dif_neg (by rw [HKID.out, HT.out]; simp)] at e
            rw [← e])
          have HC := HC3
          have HO := HO3
          have HD := Lib.hid (show decide (i < k) = decide (i < (hdn l i n).2) by rw [← HE.out])
          go_wp2
          refine bodyPost_ret (results_tmp rfl _ _ _) rfl ⟨by
            show Ending.returned (.bool (decide (i < k))) = _
            rw [HD.out], ?_, HO.out⟩
          rw [← HE2.out]
          exact HC.out
        · have HT := Lib.hid ht
          have x0 := HC3.out.blk.cell 3
          simp at x0
          have hm := m_Swap x0
          have HQ := Lib.hid (swap87 w3 (HC3.out.sl' HK.out.2.2) HK.out.2.2 (i := k) (j := c2) (by have := HJ.out; have := HK.out; omega) (by have := HJ.out; have := HK.out; omega))
          go_wp2_with fail
          refine HQ.out.mono ?_
          clear HQ hm x0
          rintro e w4 ⟨rfl, hS, ho⟩
          have HC4 := Lib.hid (HC3.out.swap HK.out.2.2 (by have := HJ.out; have := HK.out; omega) (by have := HJ.out; have := HK.out; omega) hS ho)
          have HO4 := Lib.hid (HO3.out.trans ho)
          clear hS ho HC3 HO3
          have HU2 := Lib.hid (show hdn (swp m k c2) c2 n = hdn l i n by
            have e := HU.out
            rw [hdn, dif_pos ⟨by have := HJ.out; omega, by rw [HKID.out]; exact HT.out⟩, HKID.out] at e
            exact e)
          have HK2 := Lib.hid (show c2 ≤ N ∧ n ≤ N ∧ (swp m k c2).length = N by rw [swp_len]; have := HJ.out; have := HK.out; omega)
          clear ht
          go_wp2
          go_roundw
          case measure => have := HJ.out; simp [intOf]; omega
          case rel => exact ⟨c2, _, rfl, HK2, HC4, HU2, HO4⟩
    · have hd2z : ¬ (c2 : Int) < (n : Int) := by omega
      have HKID := Lib.hid (show kid m k n = c1 by
        unfold kid
        rw [if_neg (by omega), ← hc1])
      have HJ := Lib.hid (show c1 < n ∧ k < c1 ∧ 2 * k + 1 < n by omega)
      clear hc1 hc2 hd hd2
      have x0 := HC.out.blk.cell 3
      simp at x0
      have hm := m_Less x0
      have hcs := m_Swap x0
      have HQ := Lib.hid (less86 _ (HC.out.sl' HK.out.2.2) HK.out.2.2 HC.out.le (i := c1) (j := k) (by have := HJ.out; have := HK.out; omega) (by have := HJ.out; have := HK.out; omega))
      clear hcs
      go_wp2_with fail
      refine HQ.out.mono ?_
      clear HQ hm x0
      rintro e w3 ⟨rfl, ho⟩
      have HC3 := Lib.hid (HC.out.only0 ho)
      have HO3 := Lib.hid (HO.out.trans (ho.mono (by simp)))
      clear ho HC HO
      cases ht : tlt (m.getD c1 (0, 0)) (m.getD k (0, 0))
      · have HT := Lib.hid ht
        have HE := Lib.hid (show k = (hdn l i n).2 by
          have e := HU.out
          rw [hdn, dif_neg (by rw [HKID.out, HT.out]; simp)] at e
          rw [← e])
        have HE2 := Lib.hid (show m = (hdn l i n).1 by
          have e := HU.out
          rw [hdn, dif_neg (by rw [HKID.out, HT.out]; simp)] at e
          rw [← e])
        have HC := HC3
        have HO := HO3
        have HD := Lib.hid (show decide (i < k) = decide (i < (hdn l i n).2) by rw [← HE.out])
        go_wp2
        refine bodyPost_ret (results_tmp rfl _ _ _) rfl ⟨by
          show Ending.returned (.bool (decide (i < k))) = _
          rw [HD.out], ?_, HO.out⟩
        rw [← HE2.out]
        exact HC.out
      · have HT := Lib.hid ht
        have x0 := HC3.out.blk.cell 3
        simp at x0
        have hm := m_Swap x0
        have HQ := Lib.hid (swap87 w3 (HC3.out.sl' HK.out.2.2) HK.out.2.2 (i := k) (j := c1) (by have := HJ.out; have := HK.out; omega) (by have := HJ.out; have := HK.out; omega))
        go_wp2_with fail
        refine HQ.out.mono ?_
        clear HQ hm x0
        rintro e w4 ⟨rfl, hS, ho⟩
        have HC4 := Lib.hid (HC3.out.swap HK.out.2.2 (by have := HJ.out; have := HK.out; omega) (by have := HJ.out; have := HK.out; omega) hS ho)
        have HO4 := Lib.hid (HO3.out.trans ho)
        clear hS ho HC3 HO3
        have HU2 := Lib.hid (show hdn (swp m k c1) c1 n = hdn l i n by
          have e := HU.out
          rw [hdn, dif_pos ⟨by have := HJ.out; omega, by rw [HKID.out]; exact HT.out⟩, HKID.out] at e
          exact e)
        have HK2 := Lib.hid (show c1 ≤ N ∧ n ≤ N ∧ (swp m k c1).length = N by rw [swp_len]; have := HJ.out; have := HK.out; omega)
        clear ht
        go_wp2
        go_roundw
        case measure => have := HJ.out; simp [intOf]; omega
        case rel => exact ⟨c1, _, rfl, HK2, HC4, HU2, HO4⟩
end Go.Proofs.Ytjnhplgdbdneiaa
