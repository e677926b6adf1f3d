/-
  Package name: Number of a segment's name, and of texts of another length.
-/
import Derived.Test.YtbcckaaleoofhaaNe
namespace Go.Proofs.Ytbcckaaleoofhaa
open Go.RowKit Go.Fl

theorem number_len (l : List UInt8) (w : World) (h : l.length ≠ 24) : Calls Try.prog 6 #[.string ⟨l.toArray⟩] w fun e w' => e = .returned (.tuple #[.int .i64 0, .bool false]) ∧ w' = w := by
  have hsz := str_size l
  have hne : (((l.length : Nat) : Int) != 24) = true := by simp; omega
  go_enter Try.func6, Try.ntmps6
  go_wp2
  go_ret2
  exact ⟨rfl, rfl⟩

theorem extract_list (l : List UInt8) (a b : Nat) : (⟨l.toArray⟩ : ByteArray).extract a b = ⟨((l.drop a).take (b - a)).toArray⟩ := ByteArray.extract_mk l a b
theorem seg_cut4 (n : Nat) : (⟨(seg n).toArray⟩ : ByteArray).extract 0 4 = ⟨#[115, 101, 103, 45]⟩ := by
  rw [extract_list]; rfl
theorem seg_cut20 (n : Nat) : (⟨(seg n).toArray⟩ : ByteArray).extract 20 24 = ⟨#[46, 108, 111, 103]⟩ := by
  rw [extract_list]; rfl
theorem seg_size (n : Nat) : (⟨(seg n).toArray⟩ : ByteArray).size = 24 := by rw [str_size, seg_length]
theorem seg_at (n k : Nat) (h : k < 16) : (seg n)[4 + k]? = some (dig (n / 16 ^ (15 - k) % 16)) := by
  rw [seg, List.getElem?_append_right (by simp [segFront]), show 4 + k - segFront.length = k by simp [segFront], List.getElem?_append_left (by rw [hexR_length]; exact h), hexR_at 16 n k h]
theorem i64_or (m d : Nat) (hd : d < 16) (h : m * 16 + d < 9223372036854775808) : bits .or .i64 ((m * 16 : Nat) : Int) (d : Int) = ((m * 16 + d : Nat) : Int) := by
  show IntKind.i64.wrap ((BitVec.ofInt 64 ((m * 16 : Nat) : Int) ||| BitVec.ofInt 64 (d : Int)).toNat : Nat) = _
  have e1 : (BitVec.ofInt 64 ((m * 16 : Nat) : Int)).toNat = m * 16 := by rw [BitVec.toNat_ofInt]; omega
  have e2 : (BitVec.ofInt 64 (d : Int)).toNat = d := by rw [BitVec.toNat_ofInt]; omega
  rw [BitVec.toNat_or, e1, e2, Nat.mul_comm, show (16 : Nat) = 2 ^ 4 from rfl, ← Nat.two_pow_add_eq_or_of_lt (by omega), IntKind.wrap_i64]
  omega

set_option maxHeartbeats 800000 in
theorem number_seg (n : Nat) (w : World) (h1 : 1 ≤ n) (h2 : n < 9223372036854775808) : Calls Try.prog 6 #[.string ⟨(seg n).toArray⟩] w fun e w' => e = .returned (.tuple #[.int .i64 n, .bool true]) ∧ w' = w := by
  have HD : ∀ d, d < 16 → Hid (Calls Try.prog 19 #[.int .u8 (dig d).toNat] w fun e w' => e = .returned (.tuple #[.int .i64 d, .bool true]) ∧ w' = w) := fun d hd => Lib.hid (digit_ok d w hd)
  have hsz := seg_size n
  have hc4 := seg_cut4 n
  have hc20 := seg_cut20 n
  have h1' : 1 ≤ (n : Int) := by omega
  go_enter Try.func6, Try.ntmps6
  go_wp2
  go_loopw [4, 5] (fun s i wr => ∃ k m : Nat, k ≤ 16 ∧ i = .int .i64 ((4 + k : Nat) : Int) ∧ s = .int .i64 (m : Int) ∧ Hid (m = n / 16 ^ (16 - k)) ∧ Hid (wr = w)) (fun _ i _ => 20 - (intOf i).toNat)
  case atStart => exact ⟨0, 0, by omega, rfl, rfl, Lib.hid (by rw [Nat.div_eq_of_lt (by omega)]), Lib.hid rfl⟩
  case round =>
    obtain ⟨k, m, hk, rfl, rfl, HM, HW⟩ := hrel
    obtain rfl := HW.out
    by_cases hk16 : k < 16
    · have hkz : (k : Int) < 16 := by omega
      have hkl : 4 + k < (seg n).length := by rw [seg_length]; omega
      obtain ⟨d, hd⟩ : ∃ d, n / 16 ^ (15 - k) % 16 = d := ⟨_, rfl⟩
      have hd16 : d < 16 := by rw [← hd]; exact Nat.mod_lt _ (by omega)
      have hat : ((⟨(seg n).toArray⟩ : ByteArray)[4 + k]'(by rw [seg_size]; omega)) = dig d := by
        have := seg_at n k hk16
        rw [List.getElem?_eq_getElem hkl, hd] at this
        injection this
      have hmd : m * 16 + d = n / 16 ^ (15 - k) := by
        have e : 16 ^ (16 - k) = 16 ^ (15 - k) * 16 := by rw [show 16 - k = 15 - k + 1 by omega, Nat.pow_succ]
        rw [HM.out, e, ← Nat.div_div_eq_div_mul, ← hd]; omega
      have hle : n / 16 ^ (15 - k) ≤ n := Nat.div_le_self _ _
      have hor := i64_or m d hd16 (by omega)
      have hwr : IntKind.i64.wrap ((m : Int) * 16) = (m : Int) * 16 := IntWalk.i64_in _ (by omega)
      have HDk := HD d hd16
      have HMD := Lib.hid (show m * 16 + d = n / 16 ^ (16 - (k + 1)) by rw [hmd, show 16 - (k + 1) = 15 - k by omega])
      rw [Int.natCast_mul, Int.natCast_add, Int.natCast_mul] at hor
      simp only [Int.cast_ofNat_Int] at hor
      clear hd hmd hle
      go_wp2_with fail
      refine HDk.out.mono ?_
      clear HDk
      rintro e w1 ⟨rfl, rfl⟩
      go_wp2
      go_roundw
      case measure => simp [intOf]; omega
      case rel => exact ⟨k + 1, m * 16 + d, by omega, by congr 1, by congr 1, HMD, (by first | exact Lib.hid rfl | exact Lib.hid trivial)⟩
    · obtain rfl : k = 16 := by omega
      have hm := HM.out
      simp only [Nat.sub_self, Nat.pow_zero, Nat.div_one] at hm
      subst hm
      go_wp2
      go_ret2
      exact ⟨rfl, rfl⟩
end Go.Proofs.Ytbcckaaleoofhaa
