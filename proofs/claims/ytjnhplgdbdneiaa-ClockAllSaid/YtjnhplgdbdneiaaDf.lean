/-
  Clock: the heap's interface; up the heap.
-/
import Derived.Test.YtjnhplgdbdneiaaDe
set_option linter.unusedSimpArgs false
set_option linter.unusedVariables false
namespace Go.Proofs.Ytjnhplgdbdneiaa
open Go.RowKit Go.Fl

theorem m_Len {w : World} {r : Nat} {a : Option Addr} {n cap : Nat} (hx : w.cell? ⟨r, 3, none⟩ = some (.slice a n cap)) : (method 231 68 (.pointer (some ⟨r, 3, none⟩)) "Len").run Try.prog w = .ok (85, .slice a n cap) w := by
  have h1 : ((Try.prog.info? 68).map (·.methods)).map (fun ms => ms.find? (·.name == "Len")) = some (some ⟨"Len", 84, #[], some (85, false)⟩) := by kernel_rfl
  cases hi : Try.prog.info? 68 with
  | none => rw [hi] at h1; cases h1
  | some i =>
    rw [hi] at h1
    simp at h1
    have hw : ∀ s m, Builtin.ssaWrapNilChk_ #[68] 68 #[.pointer (some ⟨r, 3, none⟩), strVal s, strVal m] = pure (.pointer (some ⟨r, 3, none⟩)) := fun _ _ => rfl
    unfold method
    simp [typeInfo, hi, h1, follow, receiverAt, Place.get, run_underlying Try.underlying68, run_underlying Try.underlying58, hw]
    simp [asAddr, loadVar, Try.isAgg58, hx]
theorem m_Less {w : World} {r : Nat} {a : Option Addr} {n cap : Nat} (hx : w.cell? ⟨r, 3, none⟩ = some (.slice a n cap)) : (method 231 68 (.pointer (some ⟨r, 3, none⟩)) "Less").run Try.prog w = .ok (86, .slice a n cap) w := by
  have h1 : ((Try.prog.info? 68).map (·.methods)).map (fun ms => ms.find? (·.name == "Less")) = some (some ⟨"Less", 94, #[], some (86, false)⟩) := by kernel_rfl
  cases hi : Try.prog.info? 68 with
  | none => rw [hi] at h1; cases h1
  | some i =>
    rw [hi] at h1
    simp at h1
    have hw : ∀ s m, Builtin.ssaWrapNilChk_ #[68] 68 #[.pointer (some ⟨r, 3, none⟩), strVal s, strVal m] = pure (.pointer (some ⟨r, 3, none⟩)) := fun _ _ => rfl
    unfold method
    simp [typeInfo, hi, h1, follow, receiverAt, Place.get, run_underlying Try.underlying68, run_underlying Try.underlying58, hw]
    simp [asAddr, loadVar, Try.isAgg58, hx]
theorem m_Swap {w : World} {r : Nat} {a : Option Addr} {n cap : Nat} (hx : w.cell? ⟨r, 3, none⟩ = some (.slice a n cap)) : (method 231 68 (.pointer (some ⟨r, 3, none⟩)) "Swap").run Try.prog w = .ok (87, .slice a n cap) w := by
  have h1 : ((Try.prog.info? 68).map (·.methods)).map (fun ms => ms.find? (·.name == "Swap")) = some (some ⟨"Swap", 85, #[], some (87, false)⟩) := by kernel_rfl
  cases hi : Try.prog.info? 68 with
  | none => rw [hi] at h1; cases h1
  | some i =>
    rw [hi] at h1
    simp at h1
    have hw : ∀ s m, Builtin.ssaWrapNilChk_ #[68] 68 #[.pointer (some ⟨r, 3, none⟩), strVal s, strVal m] = pure (.pointer (some ⟨r, 3, none⟩)) := fun _ _ => rfl
    unfold method
    simp [typeInfo, hi, h1, follow, receiverAt, Place.get, run_underlying Try.underlying68, run_underlying Try.underlying58, hw]
    simp [asAddr, loadVar, Try.isAgg58, hx]
theorem m_Push (w : World) (r : Nat) : (method 231 68 (.pointer (some ⟨r, 3, none⟩)) "Push").run Try.prog w = .ok (89, .pointer (some ⟨r, 3, none⟩)) w := by
  have h1 : ((Try.prog.info? 68).map (·.methods)).map (fun ms => ms.find? (·.name == "Push")) = some (some ⟨"Push", 82, #[], some (89, true)⟩) := by kernel_rfl
  cases hi : Try.prog.info? 68 with
  | none => rw [hi] at h1; cases h1
  | some i =>
    rw [hi] at h1
    simp at h1
    unfold method
    simp [typeInfo, hi, h1, follow, receiverAt, Place.get, run_underlying Try.underlying68, run_underlying Try.underlying58]
theorem m_Pop (w : World) (r : Nat) : (method 231 68 (.pointer (some ⟨r, 3, none⟩)) "Pop").run Try.prog w = .ok (88, .pointer (some ⟨r, 3, none⟩)) w := by
  have h1 : ((Try.prog.info? 68).map (·.methods)).map (fun ms => ms.find? (·.name == "Pop")) = some (some ⟨"Pop", 87, #[], some (88, true)⟩) := by kernel_rfl
  cases hi : Try.prog.info? 68 with
  | none => rw [hi] at h1; cases h1
  | some i =>
    rw [hi] at h1
    simp at h1
    unfold method
    simp [typeInfo, hi, h1, follow, receiverAt, Place.get, run_underlying Try.underlying68, run_underlying Try.underlying58]
theorem CK.sl' {w : World} {r now n : Nat} {last : Int} {l : List Tm} {s : Value} (h : CK w r now last l s) (hn : l.length = n) : Sl w 70 2 s n (tcs l) := hn ▸ h.sl
/-- The timers change their places. -/
theorem CK.swap {w w' : World} {r now : Nat} {last : Int} {l : List Tm} {g off cap n : Nat} {i j : Nat} (h : CK w r now last l (.slice (some ⟨g, off, none⟩) n cap)) (hn : l.length = n) (hi : i < n) (hj : j < n)
    (hS : Sl w' 70 2 (.slice (some ⟨g, off, none⟩) n cap) n (tcs (swp l i j))) (ho : Only [g] w w') : CK w' r now last (swp l i j) (.slice (some ⟨g, off, none⟩) n cap) := by
  have hne := h.ne
  refine ⟨h.blk.only ho (fun e => hne (by simp at e; simp [Value.ownBlock, e])), by rw [swp_len, hn]; exact hS, fun x hx => h.le x ((swp_perm l (by omega) (by omega)).mem_iff.1 hx)⟩
set_option maxRecDepth 100000 in
set_option maxHeartbeats 1600000 in
theorem up42 (w : World) {r now : Nat} {last : Int} {l : List Tm} {g off cap n : Nat} (h : CK w r now last l (.slice (some ⟨g, off, none⟩) n cap)) (hn : l.length = n) {j : Nat} (hj : j < n) (hmx : n ≤ 1048577) :
    Calls Try.prog 42 #[hpI r, iv j] w fun e w' => e = .returned (.tuple #[]) ∧ CK w' r now last (hup l j) (.slice (some ⟨g, off, none⟩) n cap) ∧ Only [g] w w' := by
  have H := Lib.hid h
  have HM := Lib.hid hmx
  have HJ := Lib.hid (And.intro hj hn)
  clear h hj hmx hn
  go_enter Try.func42, Try.ntmps42
  go_wp2
  go_loopw [1] (fun z wr => ∃ (k : Nat) (m : List Tm), z = .int .i64 k ∧ Hid (k < n ∧ m.length = n) ∧ Hid (CK wr r now last m (.slice (some ⟨g, off, none⟩) n cap)) ∧ Hid (hup m k = hup l j) ∧ Hid (Only [g] w wr)) (fun z _ => (intOf z).toNat)
  case atStart => exact ⟨j, l, rfl, HJ, H, Lib.hid rfl, Lib.hid (Only.refl _ _)⟩
  case round =>
    obtain ⟨k, m, rfl, HK, HC, HU, HO⟩ := hrel
    have x0 := HC.out.blk.cell 3
    simp at x0
    by_cases hk : k = 0
    · subst hk
      go_wp2
      refine bodyPost_end (results_none rfl _ _ _) rfl ⟨rfl, ?_, HO.out⟩
      have e := HU.out
      rw [hup_zero] at e
      rw [← e]
      exact HC.out
    · have HK0 := Lib.hid hk
      obtain ⟨p, hp⟩ : ∃ p, p = (k - 1) / 2 := ⟨_, rfl⟩
      have e1 : wrap64 ((k : Int) - 1) = (k : Int) - 1 := by have h1 := HK.out.1; have h2 := HM.out; unfold wrap64; omega
      have e2 : ((k : Int) - 1).tdiv 2 = (p : Int) := by rw [Int.tdiv_eq_ediv_of_nonneg (by omega)]; omega
      have e3 : wrap64 (p : Int) = (p : Int) := by have h1 := HK.out.1; have h2 := HM.out; unfold wrap64; omega
      have e4 : ((p : Int) == (k : Int)) = false := by rw [beq_eq_false_iff_ne]; omega
      have HP := Lib.hid hp
      clear hp hk
      have hm := m_Less x0
      have HQ := Lib.hid (less86 wr (HC.out.sl' HK.out.2) HK.out.2 HC.out.le (i := k) (j := p) HK.out.1 (by have := HP.out; have := HK.out.1; omega))
      go_wp2_with fail
      refine HQ.out.mono ?_
      clear HQ hm x0
      rintro e w2 ⟨rfl, ho⟩
      have HC2 := Lib.hid (HC.out.only0 ho)
      have HO2 := Lib.hid (HO.out.trans (ho.mono (by simp)))
      clear ho HC HO
      cases ht : tlt (m.getD k (0, 0)) (m.getD p (0, 0))
      · have HT := Lib.hid ht
        go_wp2
        refine bodyPost_end (results_none rfl _ _ _) rfl ⟨rfl, ?_, HO2.out⟩
        have e := HU.out
        rw [hup, dif_neg (by rw [← HP.out]; rw [HT.out]; simp)] at e
        rw [← e]
        exact HC2.out
      · have HT := Lib.hid ht
        have x0 := HC2.out.blk.cell 3
        simp at x0
        have hm := m_Swap x0
        have HQ := Lib.hid (swap87 w2 (HC2.out.sl' HK.out.2) HK.out.2 (i := p) (j := k) (by have := HP.out; have := HK.out.1; omega) HK.out.1)
        go_wp2_with fail
        refine HQ.out.mono ?_
        clear HQ hm x0
        rintro e w3 ⟨rfl, hS, ho⟩
        have HC3 := Lib.hid (HC2.out.swap HK.out.2 (by have := HP.out; have := HK.out.1; omega) HK.out.1 hS ho)
        have HO3 := Lib.hid (HO2.out.trans ho)
        clear hS ho HC2 HO2
        have HU2 := Lib.hid (show hup (swp m p k) p = hup l j by
          have e := HU.out
          have hk0 := HK0.out
          rw [hup, dif_pos ⟨by omega, by rw [← HP.out]; exact HT.out⟩, ← HP.out] at e
          exact e)
        have HK2 := Lib.hid (show p < n ∧ (swp m p k).length = n by rw [swp_len]; have := HP.out; have := HK.out; omega)
        have HPK := Lib.hid (show p < k by have := HP.out; have := HK0.out; omega)
        clear ht
        go_wp2
        go_roundw
        case measure => have := HPK.out; simp [intOf]; omega
        case rel => exact ⟨p, _, rfl, HK2, HC3, HU2, HO3⟩
end Go.Proofs.Ytjnhplgdbdneiaa
