/-
  Package name: Kind of a segment's name and of the three others; these names.
-/
import Derived.Test.YtbcckaaleoofhaaNf
namespace Go.Proofs.Ytbcckaaleoofhaa
open Go.RowKit Go.Fl

def catL : List UInt8 := [99, 97, 116, 97, 108, 111, 103]
def nextL : List UInt8 := [99, 97, 116, 97, 108, 111, 103, 45, 110, 101, 120, 116]
def anewL : List UInt8 := [115, 101, 103, 109, 101, 110, 116, 45, 110, 101, 120, 116]

theorem dig_plain : ∀ d < 16, okI (dig d).toNat = true := by decide
theorem hexR_ok : ∀ (k n : Nat), (hexR k n).all (fun c => okI c.toNat) = true
  | 0, _ => rfl
  | k + 1, n => by rw [hexR, List.all_cons, hexR_ok k n, dig_plain _ (Nat.mod_lt _ (by omega))]; rfl
theorem may_seg (n : Nat) : mayB (seg n) = true := by
  have h0 : 0 < (seg n).length := by rw [seg_length]; omega
  rw [may_eq h0 (by rw [seg_length]; omega)]
  have e0 : (seg n)[0] = 115 := rfl
  have e1 : (seg n)[(seg n).length - 1]'(by omega) = 103 := rfl
  rw [e0, e1]
  have h1 : (seg n).all (fun c => okI c.toNat) = true := by
    rw [seg, List.all_append, List.all_append, hexR_ok]; rfl
  rw [h1]; rfl
theorem may_cat : mayB catL = true := by kernel_rfl
theorem may_next : mayB nextL = true := by kernel_rfl
theorem may_anew : mayB anewL = true := by kernel_rfl

theorem catalog_ok (w : World) : Calls Try.prog 16 #[] w fun e w' => e = .returned (.string ⟨catL.toArray⟩) ∧ w' = w := by
  go_enter Try.func16, Try.ntmps16
  go_wp2
  go_ret
  exact ⟨rfl, rfl⟩
theorem anew_ok (w : World) : Calls Try.prog 17 #[] w fun e w' => e = .returned (.string ⟨anewL.toArray⟩) ∧ w' = w := by
  go_enter Try.func17, Try.ntmps17
  go_wp2
  go_ret
  exact ⟨rfl, rfl⟩
theorem next_ok (w : World) : Calls Try.prog 18 #[] w fun e w' => e = .returned (.string ⟨nextL.toArray⟩) ∧ w' = w := by
  go_enter Try.func18, Try.ntmps18
  go_wp2
  go_ret
  exact ⟨rfl, rfl⟩

set_option maxHeartbeats 800000 in
theorem kind_seg (n : Nat) (w : World) (h1 : 1 ≤ n) (h2 : n < 9223372036854775808) : Calls Try.prog 10 #[.string ⟨(seg n).toArray⟩] w fun e w' => e = .returned (.int .i64 1) ∧ w' = w := by
  have HN := Lib.hid (number_seg n w h1 h2)
  have HM := Lib.hid (may_ok (seg n) w)
  rw [may_seg] at HM
  go_enter Try.func10, Try.ntmps10
  go_wp2_with fail
  refine HN.out.mono ?_
  clear HN
  rintro e w1 ⟨rfl, rfl⟩
  go_wp2_with fail
  refine HM.out.mono ?_
  clear HM
  rintro e w1 ⟨rfl, rfl⟩
  go_wp2
  go_ret
  exact ⟨rfl, rfl⟩
set_option maxHeartbeats 800000 in
theorem kind_cat (w : World) : Calls Try.prog 10 #[.string ⟨catL.toArray⟩] w fun e w' => e = .returned (.int .i64 2) ∧ w' = w := by
  have HN := Lib.hid (number_len catL w (by decide))
  have HM := Lib.hid (may_ok catL w)
  rw [may_cat] at HM
  go_enter Try.func10, Try.ntmps10
  go_wp2_with fail
  refine HN.out.mono ?_
  clear HN
  rintro e w1 ⟨rfl, rfl⟩
  go_wp2_with fail
  refine HM.out.mono ?_
  clear HM
  rintro e w1 ⟨rfl, rfl⟩
  go_wp2
  go_ret
  exact ⟨rfl, rfl⟩
set_option maxHeartbeats 800000 in
theorem kind_next (w : World) : Calls Try.prog 10 #[.string ⟨nextL.toArray⟩] w fun e w' => e = .returned (.int .i64 3) ∧ w' = w := by
  have HN := Lib.hid (number_len nextL w (by decide))
  have HM := Lib.hid (may_ok nextL w)
  rw [may_next] at HM
  go_enter Try.func10, Try.ntmps10
  go_wp2_with fail
  refine HN.out.mono ?_
  clear HN
  rintro e w1 ⟨rfl, rfl⟩
  go_wp2_with fail
  refine HM.out.mono ?_
  clear HM
  rintro e w1 ⟨rfl, rfl⟩
  go_wp2
  go_ret
  exact ⟨rfl, rfl⟩
set_option maxHeartbeats 800000 in
theorem kind_anew (w : World) : Calls Try.prog 10 #[.string ⟨anewL.toArray⟩] w fun e w' => e = .returned (.int .i64 3) ∧ w' = w := by
  have HN := Lib.hid (number_len anewL w (by decide))
  have HM := Lib.hid (may_ok anewL w)
  rw [may_anew] at HM
  go_enter Try.func10, Try.ntmps10
  go_wp2_with fail
  refine HN.out.mono ?_
  clear HN
  rintro e w1 ⟨rfl, rfl⟩
  go_wp2_with fail
  refine HM.out.mono ?_
  clear HM
  rintro e w1 ⟨rfl, rfl⟩
  go_wp2
  go_ret
  exact ⟨rfl, rfl⟩
end Go.Proofs.Ytbcckaaleoofhaa
