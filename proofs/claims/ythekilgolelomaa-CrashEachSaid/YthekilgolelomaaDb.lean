/-
  The disk: names that may be.
-/
import Derived.Test.YthekilgolelomaaDa
set_option linter.unusedSimpArgs false
set_option linter.unusedVariables false
namespace Go.Proofs.Ythekilgolelomaa
open Go.RowKit Go.Fl

def plainI (c : Int) : Bool := decide (97 ≤ c ∧ c ≤ 122) || decide (48 ≤ c ∧ c ≤ 57)
theorem plain_ok (c : Int) (w : World) : Calls Try.prog 49 #[.int .u8 c] w fun e w' => e = .returned (.bool (plainI c)) ∧ w' = w := by
  have h : c < 48 ∨ (48 ≤ c ∧ c ≤ 57) ∨ (57 < c ∧ c < 97) ∨ (97 ≤ c ∧ c ≤ 122) ∨ 122 < c := by omega
  rcases h with h | ⟨h1, h2⟩ | ⟨h1, h2⟩ | ⟨h1, h2⟩ | h
  · have HP := Lib.hid (show plainI c = false by simp [plainI]; omega)
    go_enter Try.func49, Try.ntmps49
    go_wp2
    go_ret
    exact ⟨by rw [HP.out]; simp <;> omega, rfl⟩
  · have HP := Lib.hid (show plainI c = true by simp [plainI]; omega)
    go_enter Try.func49, Try.ntmps49
    go_wp2
    go_ret
    exact ⟨by rw [HP.out]; simp <;> omega, rfl⟩
  · have HP := Lib.hid (show plainI c = false by simp [plainI]; omega)
    go_enter Try.func49, Try.ntmps49
    go_wp2
    go_ret
    exact ⟨by rw [HP.out]; simp <;> omega, rfl⟩
  · have HP := Lib.hid (show plainI c = true by simp [plainI]; omega)
    go_enter Try.func49, Try.ntmps49
    go_wp2
    go_ret
    exact ⟨by rw [HP.out]; simp <;> omega, rfl⟩
  · have HP := Lib.hid (show plainI c = false by simp [plainI]; omega)
    go_enter Try.func49, Try.ntmps49
    go_wp2
    go_ret
    exact ⟨by rw [HP.out]; simp <;> omega, rfl⟩
theorem str_size (l : List UInt8) : (⟨l.toArray⟩ : ByteArray).size = l.length := by simp [ByteArray.size]
def okI (c : Int) : Bool := plainI c || c == 46 || c == 45
def mayB (l : List UInt8) : Bool := decide (1 ≤ l.length) && decide (l.length ≤ 64) && plainI (l.getD 0 0).toNat && plainI (l.getD (l.length - 1) 0).toNat && l.all fun c => okI c.toNat
theorem at_list (l : List UInt8) (i : Nat) (h : i < l.length) : ((⟨l.toArray⟩ : ByteArray)[i]'(by rw [str_size]; exact h)) = l[i] := rfl
theorem getD_at (l : List UInt8) (i : Nat) (h : i < l.length) : l.getD i 0 = l[i] := by simp [List.getD, List.getElem?_eq_getElem h]
theorem may_eq {l : List UInt8} (h1 : 0 < l.length) (h2 : l.length ≤ 64) : mayB l = (plainI (l[0]'h1).toNat && plainI (l[l.length - 1]'(by omega)).toNat && l.all fun c => okI c.toNat) := by
  unfold mayB
  rw [getD_at l 0 h1, getD_at l (l.length - 1) (by omega), decide_eq_true (show 1 ≤ l.length by omega), decide_eq_true h2]
  simp

set_option maxRecDepth 100000 in
set_option maxHeartbeats 1600000 in
theorem may_ok (l : List UInt8) (w : World) :
    Calls Try.prog 36 #[.string ⟨l.toArray⟩] w fun e w' => e = .returned (.bool (mayB l)) ∧ w' = w := by
  have HP : ∀ c, Hid (Calls Try.prog 49 #[.int .u8 c] w fun e w' => e = .returned (.bool (plainI c)) ∧ w' = w) := fun c => Lib.hid (plain_ok c w)
  have hsz := str_size l
  by_cases h1 : l.length < 1
  · have h1i : (l.length : Int) < 1 := by omega
    have HM := Lib.hid (show mayB l = false by unfold mayB; rw [decide_eq_false (show ¬ 1 ≤ l.length by omega)]; simp)
    clear HP h1
    go_enter Try.func36, Try.ntmps36
    go_wp2_with fail
    go_ret
    exact ⟨by rw [HM.out]; rfl, rfl⟩
  · by_cases h2 : 64 < l.length
    · have h1i : 1 ≤ (l.length : Int) := by omega
      have h2i : 64 < (l.length : Int) := by omega
      have HM := Lib.hid (show mayB l = false by unfold mayB; rw [decide_eq_false (show ¬ l.length ≤ 64 by omega)]; simp)
      clear HP h1 h2
      go_enter Try.func36, Try.ntmps36
      go_wp2_with fail
      go_ret
      exact ⟨by rw [HM.out]; rfl, rfl⟩
    · have h1i : 1 ≤ (l.length : Int) := by omega
      have h2i : (l.length : Int) ≤ 64 := by omega
      have hlen : 0 < l.length := by omega
      have hle : l.length ≤ 64 := by omega
      have hlast : l.length - 1 < l.length := by omega
      have HM := Lib.hid (may_eq hlen hle)
      have HS := Lib.hid hsz
      clear h1 h2
      go_enter Try.func36, Try.ntmps36
      go_wp2_with fail
      refine (HP _).out.mono ?_
      rintro e w1 ⟨rfl, rfl⟩
      cases hx0 : plainI ((⟨l.toArray⟩ : ByteArray)[0]'(by rw [str_size]; exact hlen)).toNat with
      | false =>
        have HF := Lib.hid (show mayB l = false by rw [HM.out, ← at_list l 0 hlen, hx0]; simp)
        go_wp2_with fail
        go_ret
        exact ⟨by rw [HF.out]; rfl, rfl⟩
      | true =>
        have HX0 := Lib.hid hx0
        go_wp2_with fail
        refine (HP _).out.mono ?_
        rintro e w2 ⟨rfl, rfl⟩
        cases hxl : plainI ((⟨l.toArray⟩ : ByteArray)[l.length - 1]'(by rw [str_size]; exact hlast)).toNat with
        | false =>
          have HF := Lib.hid (show mayB l = false by rw [HM.out, ← at_list l (l.length - 1) hlast, hxl]; simp)
          clear hx0
          go_wp2_with fail
          go_ret
          exact ⟨by rw [HF.out]; rfl, rfl⟩
        | true =>
          have HF := Lib.hid (show mayB l = l.all (fun c => okI c.toNat) by rw [HM.out, ← at_list l (l.length - 1) hlast, hxl, ← at_list l 0 hlen, hx0]; simp)
          clear hx0 HM HX0
          go_wp2_with fail
          go_loopw [3] (fun i wr => ∃ k : Nat, k ≤ l.length ∧ i = .int .i64 k ∧ Hid (wr = w2) ∧ Hid (∀ j (h : j < l.length), j < k → okI l[j].toNat = true)) (fun i _ => l.length - (intOf i).toNat)
          case atStart => exact ⟨0, Nat.zero_le _, rfl, Lib.hid rfl, Lib.hid (fun j _ h => by omega)⟩
          case round =>
            obtain ⟨k, hk, rfl, HW, HN⟩ := hrel
            obtain rfl := HW.out
            by_cases hkl : k < l.length
            · have hkz : (k : Int) < (l.length : Int) := by omega
              have hks : k < (⟨l.toArray⟩ : ByteArray).size := by rw [str_size]; exact hkl
              go_wp2_with fail
              refine (HP _).out.mono ?_
              rintro e w3 ⟨rfl, rfl⟩
              have HAT := Lib.hid (at_list l k hkl)
              cases hxp : plainI ((⟨l.toArray⟩ : ByteArray)[k]'hks).toNat with
              | true =>
                have HK := Lib.hid (show okI l[k].toNat = true by rw [← HAT.out]; simp [okI, hxp])
                go_wp2
                go_roundw
                case measure => simp [intOf]; omega
                case rel => exact ⟨k + 1, by omega, by go_num, (by first | exact Lib.hid rfl | exact Lib.hid trivial), Lib.hid (fun j h hj => by
                  rcases Nat.lt_succ_iff_lt_or_eq.1 hj with hj | hj
                  · exact HN.out j h hj
                  · subst hj; exact HK.out)⟩
              | false =>
                by_cases h46 : (((⟨l.toArray⟩ : ByteArray)[k]'hks).toNat : Int) = 46
                · have HK := Lib.hid (show okI l[k].toNat = true by rw [← HAT.out]; simp [okI, h46])
                  go_wp2
                  go_roundw
                  case measure => simp [intOf]; omega
                  case rel => exact ⟨k + 1, by omega, by go_num, (by first | exact Lib.hid rfl | exact Lib.hid trivial), Lib.hid (fun j h hj => by
                    rcases Nat.lt_succ_iff_lt_or_eq.1 hj with hj | hj
                    · exact HN.out j h hj
                    · subst hj; exact HK.out)⟩
                · by_cases h45 : (((⟨l.toArray⟩ : ByteArray)[k]'hks).toNat : Int) = 45
                  · have HK := Lib.hid (show okI l[k].toNat = true by rw [← HAT.out]; simp [okI, h45])
                    go_wp2
                    go_roundw
                    case measure => simp [intOf]; omega
                    case rel => exact ⟨k + 1, by omega, by go_num, (by first | exact Lib.hid rfl | exact Lib.hid trivial), Lib.hid (fun j h hj => by
                      rcases Nat.lt_succ_iff_lt_or_eq.1 hj with hj | hj
                      · exact HN.out j h hj
                      · subst hj; exact HK.out)⟩
                  · have HT := Lib.hid (show mayB l = false by
                      rw [HF.out, List.all_eq_false]
                      refine ⟨l[k], List.getElem_mem hkl, ?_⟩
                      rw [← HAT.out]
                      simp [okI, hxp, h46, h45])
                    have n46 : ((((⟨l.toArray⟩ : ByteArray)[k]'hks).toNat : Int) != 46) = true := by simpa using h46
                    have n45 : ((((⟨l.toArray⟩ : ByteArray)[k]'hks).toNat : Int) != 45) = true := by simpa using h45
                    clear h46 h45
                    go_wp2
                    go_ret
                    exact ⟨by rw [HT.out]; rfl, rfl⟩
            · have hkz : (l.length : Int) ≤ (k : Int) := by omega
              have HT := Lib.hid (show mayB l = true by
                rw [HF.out, List.all_eq_true]
                intro c hc
                obtain ⟨j, hj, rfl⟩ := List.mem_iff_getElem.1 hc
                exact HN.out j hj (by omega))
              go_wp2
              go_ret
              exact ⟨by rw [HT.out]; rfl, rfl⟩
end Go.Proofs.Ythekilgolelomaa
