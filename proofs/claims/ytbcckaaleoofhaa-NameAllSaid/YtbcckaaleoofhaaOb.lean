/-
  Package name: digit and Number of any text.
-/
import Derived.Test.YtbcckaaleoofhaaNm
import Derived.Test.YtbcckaaleoofhaaOa
namespace Go.Proofs.Ytbcckaaleoofhaa
open Go.RowKit Go.Fl

def digV (o : Option Nat) : Value := match o with | none => .tuple #[.int .i64 0, .bool false] | some d => .tuple #[.int .i64 d, .bool true]

set_option maxHeartbeats 800000 in
theorem digit_gen (c : UInt8) (w : World) : Calls Try.prog 19 #[.int .u8 c.toNat] w fun e w' => e = .returned (digV (hexVal c)) ∧ w' = w := by
  go_enter Try.func19, Try.ntmps19
  go_wp2
  go_loopw [4] (fun i wr => ∃ k : Nat, k ≤ 16 ∧ i = .int .i64 k ∧ Hid (wr = w) ∧ Hid (∀ d < k, dig d ≠ c)) (fun i _ => 16 - (intOf i).toNat)
  case atStart => exact ⟨0, by omega, rfl, Lib.hid rfl, Lib.hid (fun d hd => by omega)⟩
  case round =>
    obtain ⟨k, hk, rfl, HW, HN⟩ := hrel
    obtain rfl := HW.out
    by_cases hk16 : k < 16
    · have hkz : (k : Int) < 16 := by omega
      have hx := fig_get k hk16
      by_cases hkd : dig k = c
      · have HV := Lib.hid (show hexVal c = some k by rw [← hkd]; exact hexVal_dig k hk16)
        rw [hkd] at hx
        clear hkd
        go_wp2
        go_ret2
        exact ⟨by rw [HV.out]; rfl, rfl⟩
      · have hb : (((dig k).toNat : Int) == (c.toNat : Int)) = false := by
          simp only [beq_eq_false_iff_ne, ne_eq]
          intro e
          exact hkd (UInt8.toNat_inj.1 (by omega))
        have HK := Lib.hid hkd
        clear hkd
        go_wp2
        go_roundw
        case measure => simp [intOf]; omega
        case rel => exact ⟨k + 1, by omega, by go_num, (by first | exact Lib.hid rfl | exact Lib.hid trivial), Lib.hid (fun d hd => by
          rcases Nat.lt_succ_iff_lt_or_eq.1 hd with h | h
          · exact HN.out d h
          · subst h; exact HK.out)⟩
    · obtain rfl : k = 16 := by omega
      have HV := Lib.hid (show hexVal c = none from hexVal_none.2 HN.out)
      go_wp2
      go_ret2
      exact ⟨by rw [HV.out]; rfl, rfl⟩

/-- A number of 64 bits as an int64. -/
def w64 (v : Nat) : Int := if v < 9223372036854775808 then (v : Int) else (v : Int) - 18446744073709551616
theorem or_w64 (v d : Nat) (hv : v < 1152921504606846976) (hd : d < 16) : bits .or .i64 (IntKind.i64.wrap ((v : Int) * 16)) (d : Int) = w64 (v * 16 + d) := by
  show IntKind.i64.wrap ((BitVec.ofInt 64 (IntKind.i64.wrap ((v : Int) * 16)) ||| BitVec.ofInt 64 (d : Int)).toNat : Nat) = _
  have e1 : (BitVec.ofInt 64 (IntKind.i64.wrap ((v : Int) * 16))).toNat = v * 16 := by rw [BitVec.toNat_ofInt, IntKind.wrap_i64]; omega
  have e2 : (BitVec.ofInt 64 (d : Int)).toNat = d := by rw [BitVec.toNat_ofInt]; omega
  rw [BitVec.toNat_or, e1, e2, Nat.mul_comm, show (16 : Nat) = 2 ^ 4 from rfl, ← Nat.two_pow_add_eq_or_of_lt (by omega), IntKind.wrap_i64]
  unfold w64
  split <;> omega
theorem w64_small {v : Nat} (h : v < 9223372036854775808) : w64 v = v := if_pos h

theorem hexFold_snoc : ∀ (a : List UInt8) (n : Nat) (c : UInt8), hexFold n (a ++ [c]) = (match hexFold n a with | none => none | some v => match hexVal c with | none => none | some d => some (v * 16 + d))
  | [], n, c => by
    simp only [List.nil_append, hexFold]
    cases hexVal c <;> rfl
  | x :: a, n, c => by
    rw [List.cons_append, hexFold, hexFold]
    cases hexVal x with
    | none => rfl
    | some d => exact hexFold_snoc a _ c
theorem hexFold_front : ∀ (a b : List UInt8) (n : Nat), hexFold n a = none → hexFold n (a ++ b) = none
  | [], _, _, h => by cases h
  | x :: a, b, n, h => by
    rw [List.cons_append, hexFold]
    rw [hexFold] at h
    cases hx : hexVal x with
    | none => rfl
    | some d => rw [hx] at h; exact hexFold_front a b _ h
theorem num_none {l : List UInt8} {k : Nat} (h : hexFold 0 (((l.drop 4).take 16).take k) = none) : numM l = (0, false) := by
  have : hexFold 0 ((l.drop 4).take 16) = none := by
    have := hexFold_front _ (((l.drop 4).take 16).drop k) 0 h
    rwa [List.take_append_drop] at this
  unfold numM
  rw [this]
  split <;> rfl

set_option maxHeartbeats 1600000 in
theorem number_gen (l : List UInt8) (w : World) : Calls Try.prog 6 #[.string ⟨l.toArray⟩] w fun e w' => e = .returned (.tuple #[.int .i64 (numM l).1, .bool (numM l).2]) ∧ w' = w := by
  by_cases hl : l.length = 24
  · have hsz : (⟨l.toArray⟩ : ByteArray).size = 24 := by rw [str_size, hl]
    have hc4 : (⟨l.toArray⟩ : ByteArray).extract 0 4 = ⟨(l.take 4).toArray⟩ := by rw [extract_list]; rfl
    have hc20 : (⟨l.toArray⟩ : ByteArray).extract 20 24 = ⟨(l.drop 20).toArray⟩ := by
      rw [extract_list, List.take_of_length_le (by rw [List.length_drop, hl]; omega)]
    by_cases h4 : l.take 4 = segFront
    · by_cases h20 : l.drop 20 = segBack
      · have HN := Lib.hid (show numM l = (match hexFold 0 ((l.drop 4).take 16) with | none => (0, false) | some n => if 1 ≤ n ∧ n < 9223372036854775808 then ((n : Int), true) else (0, false)) by
          unfold numM; rw [if_pos ⟨hl, h4, h20⟩]; cases hexFold 0 ((l.drop 4).take 16) <;> rfl)
        have HD : ∀ c, Hid (Calls Try.prog 19 #[.int .u8 (UInt8.toNat c)] w fun e w' => e = .returned (digV (hexVal c)) ∧ w' = w) := fun c => Lib.hid (digit_gen c w)
        rw [h4] at hc4
        rw [h20] at hc20
        have e4 : (⟨segFront.toArray⟩ : ByteArray) = ⟨#[115, 101, 103, 45]⟩ := rfl
        have e20 : (⟨segBack.toArray⟩ : ByteArray) = ⟨#[46, 108, 111, 103]⟩ := rfl
        rw [e4] at hc4
        rw [e20] at hc20
        have HL := Lib.hid hl
        clear e4 e20 h4 h20 hl
        go_enter Try.func6, Try.ntmps6
        go_wp2
        go_loopw [4, 5] (fun s i wr => ∃ k v : Nat, k ≤ 16 ∧ i = .int .i64 ((4 + k : Nat) : Int) ∧ s = .int .i64 (w64 v) ∧ Hid (hexFold 0 (((l.drop 4).take 16).take k) = some v) ∧ Hid (wr = w)) (fun _ i _ => 20 - (intOf i).toNat)
        case atStart => exact ⟨0, 0, by omega, rfl, rfl, Lib.hid rfl, Lib.hid rfl⟩
        case round =>
          obtain ⟨k, v, hk, rfl, rfl, HV, HW⟩ := hrel
          obtain rfl := HW.out
          by_cases hk16 : k < 16
          · have hkz : (k : Int) < 16 := by omega
            have hkl : 4 + k < l.length := by have := HL.out; omega
            have hks : 4 + k < (⟨l.toArray⟩ : ByteArray).size := by omega
            obtain ⟨c, hc⟩ : ∃ c, l[4 + k] = c := ⟨_, rfl⟩
            have hat : ((⟨l.toArray⟩ : ByteArray)[4 + k]'hks) = c := hc
            have HT := Lib.hid (show ((l.drop 4).take 16).take (k + 1) = ((l.drop 4).take 16).take k ++ [c] by
              rw [List.take_take, List.take_take, Nat.min_eq_left (by omega), Nat.min_eq_left (by omega), List.take_succ_eq_append_getElem (by rw [List.length_drop]; omega), List.getElem_drop, hc])
            have HDc := HD c
            have hvb : v < 1152921504606846976 := by
              have := (hexFold_lt _ _ _ HV.out).1
              rw [List.length_take, List.length_take, List.length_drop, HL.out, Nat.min_eq_left (by omega)] at this
              have h2 : 16 ^ k ≤ 16 ^ 15 := Nat.pow_le_pow_right (by omega) (by omega)
              omega
            have hvs := w64_small (show v < 9223372036854775808 by omega)
            rw [hvs]
            clear hc hvs
            cases hd : hexVal c with
            | none =>
              rw [hd] at HDc
              have HT2 := Lib.hid (show numM l = (0, false) from num_none (k := k + 1) (by rw [HT.out, hexFold_snoc, HV.out, hd]))
              simp only [digV] at HDc
              clear hd
              go_wp2_with fail
              refine HDc.out.mono ?_
              clear HDc
              rintro e w1 ⟨rfl, rfl⟩
              go_wp2
              go_ret2
              exact ⟨by rw [HT2.out]; rfl, rfl⟩
            | some d =>
              rw [hd] at HDc
              have hd16 := (hexVal_lt hd).1
              have HT2 := Lib.hid (show hexFold 0 (((l.drop 4).take 16).take (k + 1)) = some (v * 16 + d) by rw [HT.out, hexFold_snoc, HV.out, hd])
              have hor := or_w64 v d hvb hd16
              have hor2 := hor
              rw [IntWalk.i64_left] at hor2
              simp only [digV] at HDc
              clear hd
              go_wp2_with fail
              refine HDc.out.mono ?_
              clear HDc
              rintro e w1 ⟨rfl, rfl⟩
              go_wp2
              go_roundw
              case measure => simp [intOf]; omega
              case rel => exact ⟨k + 1, v * 16 + d, by omega, by congr 1, by first | rfl | congr 1, HT2, (by first | exact Lib.hid rfl | exact Lib.hid trivial)⟩
          · obtain rfl : k = 16 := by omega
            have hf := HV.out
            rw [List.take_of_length_le (by rw [List.length_take]; omega)] at hf
            have HN2 := HN.out
            rw [hf] at HN2
            by_cases h1 : 1 ≤ v ∧ v < 9223372036854775808
            · have hv1 : ¬ w64 v < 1 := by rw [w64_small h1.2]; omega
              have HR := Lib.hid (show numM l = (w64 v, true) by rw [HN2]; simp only; rw [if_pos h1, w64_small h1.2])
              clear HN2 hf h1
              go_wp2
              go_ret2
              exact ⟨by rw [HR.out]; rfl, rfl⟩
            · have hv64 : v < 18446744073709551616 := by
                have := (hexFold_lt _ _ _ hf).1
                rw [List.length_take, List.length_drop, HL.out] at this
                simpa using this
              have hv1 : w64 v < 1 := by unfold w64; split <;> omega
              have HR := Lib.hid (show numM l = (0, false) by rw [HN2]; simp only; rw [if_neg h1])
              clear HN2 hf h1
              go_wp2
              go_ret2
              exact ⟨by rw [HR.out]; rfl, rfl⟩
      · have HR := Lib.hid (show numM l = (0, false) by unfold numM; rw [if_neg (fun hh => h20 hh.2.2)])
        have hne : (l.drop 20 == [46, 108, 111, 103]) = false := by simpa [segBack] using h20
        have HH := Lib.hid h4
        rw [h4] at hc4
        have e4 : (⟨segFront.toArray⟩ : ByteArray) = ⟨#[115, 101, 103, 45]⟩ := rfl
        rw [e4] at hc4
        clear h4 h20 hl e4
        go_enter Try.func6, Try.ntmps6
        go_wp2
        go_ret2
        exact ⟨by rw [HR.out]; rfl, rfl⟩
    · have HR := Lib.hid (show numM l = (0, false) by unfold numM; rw [if_neg (fun hh => h4 hh.2.1)])
      have hne : (l.take 4 == [115, 101, 103, 45]) = false := by simpa [segFront] using h4
      clear h4 hl hc20
      go_enter Try.func6, Try.ntmps6
      go_wp2
      go_ret2
      exact ⟨by rw [HR.out]; rfl, rfl⟩
  · have e : numM l = (0, false) := by unfold numM; rw [if_neg (fun hh => hl hh.1)]
    rw [e]
    exact number_len l w hl
end Go.Proofs.Ytbcckaaleoofhaa
