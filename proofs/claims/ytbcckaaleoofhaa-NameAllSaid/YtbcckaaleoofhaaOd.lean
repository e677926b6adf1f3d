/-
  The document's own Segment.
-/
import Derived.Test.YtbcckaaleoofhaaNf
namespace Go.Proofs.Ytbcckaaleoofhaa
open Go.RowKit Go.Fl

/-- One figure more in front. -/
theorem hexR_front : ∀ (k n : Nat), hexR (k + 1) n = dig (n / 16 ^ k % 16) :: hexR k n
  | _, _ => rfl

set_option maxRecDepth 100000 in
set_option maxHeartbeats 1600000 in
theorem rsegment_ok (n : Nat) (w : World) (h1 : 1 ≤ n) (h2 : n < 9223372036854775808) :
    Calls Try.prog 13 #[.int .i64 n] w fun e w' => e = .returned (.tuple #[str (seg n), .int .i64 0]) ∧ Only [] w w' := by
  have h1' : (1 : Int) ≤ n := by omega
  go_enter Try.func13, Try.ntmps13
  go_wp2_with fail
  go_loopw [0, 4, 5] (fun x s i wr => ∃ k : Nat, k ≤ 16 ∧ i = .int .i64 k ∧ x = .int .i64 ((n / 16 ^ k : Nat) : Int) ∧ s = .string ⟨(hexR k n).toArray⟩ ∧ Hid (Only [] w wr)) (fun _ _ i _ => 16 - (intOf i).toNat)
  case atStart => exact ⟨0, by omega, rfl, by simp, rfl, Lib.hid (Only.refl _ _)⟩
  case round =>
    obtain ⟨k, hk, rfl, rfl, rfl, HO⟩ := hrel
    by_cases hk16 : k < 16
    · have hkz : (k : Int) < 16 := by omega
      obtain ⟨m, hm⟩ : ∃ m, n / 16 ^ k = m := ⟨_, rfl⟩
      have HM := Lib.hid hm
      rw [hm]
      have hmb : m < 9223372036854775808 := by rw [← hm]; exact Nat.lt_of_le_of_lt (Nat.div_le_self _ _) h2
      obtain ⟨d, hd⟩ : ∃ d, m % 16 = d := ⟨_, rfl⟩
      have hd16 : d < 16 := by omega
      have hx := fig_get d hd16
      have HD := Lib.hid hd
      clear hm
      have hconv : (convert 41 9 (.slice (some ⟨wr.heap.size, 0, none⟩) 1 1)).run Try.prog (wr.alloc (.cells #[.int .u8 (dig d).toNat] 5)) = .ok (.string ⟨[dig d].toArray⟩) (wr.alloc (.cells #[.int .u8 (dig d).toNat] 5)) :=
        run_convert_bytes_back (P := Try.prog) _ 41 9 5 ⟨wr.heap.size, 0, none⟩ 1 [dig d] Try.underlying41 Try.underlying5 Try.underlying9 (fun j hj => by
          have hj0 : j = 0 := by simpa using hj
          subst hj0
          rw [Addr.add_lit, (Blk.new wr 5 #[.int .u8 (dig d).toNat]).cell]
          rfl)
      have hsz : (⟨(hexR k n).toArray⟩ : ByteArray).size = k := by rw [str_size, hexR_length]
      have hsz1 : (⟨#[dig d]⟩ : ByteArray).size = 1 := rfl
      have HS := Lib.hid (show ((⟨#[dig d]⟩ : ByteArray) ++ ⟨(hexR k n).toArray⟩) = ⟨(hexR (k + 1) n).toArray⟩ by
        rw [hexR_front, HM.out, HD.out]; exact bytes_app [dig d] (hexR k n))
      have HQ := Lib.hid (show m / 16 = n / 16 ^ (k + 1) by rw [← HM.out, Nat.div_div_eq_div_mul, ← Nat.pow_succ])
      go_wp2
      go_roundw
      case measure => simp [intOf]; omega
      case rel => exact ⟨k + 1, by omega, by go_num, by rw [← HQ.out]; rfl, by rw [HS.out], Lib.hid (HO.out.alloc _)⟩
    · obtain rfl : k = 16 := by omega
      have hsz : (⟨(hexR 16 n).toArray⟩ : ByteArray).size = 16 := by rw [str_size, hexR_length]
      go_wp2_with fail
      go_ret2
      exact ⟨by rw [show str (seg n) = _ from congrArg Value.string (seg_str n).symm]; rfl, HO.out⟩
theorem rsegment_bad (n : Int) (w : World) (h : n < 1) :
    Calls Try.prog 13 #[.int .i64 n] w fun e w' => e = .returned (.tuple #[str [], .int .i64 1]) ∧ Only [] w w' := by
  go_enter Try.func13, Try.ntmps13
  go_wp2_with fail
  go_ret2
  exact ⟨rfl, by (repeat (first | with_reducible exact Only.refl _ _ | with_reducible exact Only.refl [] w | with_reducible refine Only.drew ?_ | with_reducible refine Only.drewN ?_ _ | with_reducible refine Only.alloc ?_ _ | ((with_reducible refine Only.setCell ?_ ?_ _); rotate_left; (focus (first | (left; simp; done) | (right; simp; done) | (right; simp; omega) | (right; omega))))))⟩
end Go.Proofs.Ytbcckaaleoofhaa
