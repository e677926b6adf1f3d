/-
  The law's begun.
-/
import Derived.Test.YtbcckaaleoofhaaNk
namespace Go.Proofs.Ytbcckaaleoofhaa
open Go.RowKit Go.Fl

theorem seg255 : seg 255 = [115, 101, 103, 45, 48, 48, 48, 48, 48, 48, 48, 48, 48, 48, 48, 48, 48, 48, 102, 102, 46, 108, 111, 103] := by kernel_rfl

set_option maxRecDepth 100000 in
set_option maxHeartbeats 3200000 in
theorem begun_ok (w : World) : Calls Try.prog 5 #[] w fun e w' => e = .returned (.bool true) ∧ Only [] w w' := by
  have H1 : Calls Try.prog 12 #[.int .i64 255] w fun e w' => e = .returned (.tuple #[.string ⟨#[115, 101, 103, 45, 48, 48, 48, 48, 48, 48, 48, 48, 48, 48, 48, 48, 48, 48, 102, 102, 46, 108, 111, 103]⟩, .int .i64 0]) ∧ Only [] w w' := by
    have := segment_ok 255 w (by omega) (by omega)
    rw [seg255] at this
    exact this
  have H2 : ∀ w, Hid (Calls Try.prog 6 #[.string ⟨#[115, 101, 103, 45, 48, 48, 48, 48, 48, 48, 48, 48, 48, 48, 48, 48, 48, 48, 102, 102, 46, 108, 111, 103]⟩] w fun e w' => e = .returned (.tuple #[.int .i64 255, .bool true]) ∧ w' = w) := fun w => Lib.hid (by
    have := number_seg 255 w (by omega) (by omega)
    rw [seg255] at this
    exact this)
  have H1 := Lib.hid H1
  go_enter Try.func5, Try.ntmps5
  go_wp2_with fail
  refine H1.out.mono ?_
  clear H1
  rintro e w1 ⟨rfl, hO1⟩
  have HO1 := Lib.hid hO1
  clear hO1
  go_wp2_with fail
  refine (H2 _).out.mono ?_
  clear H2
  rintro e w2 ⟨rfl, rfl⟩
  have HO2 := Lib.hid (HO1.out.alloc (.cells #[tB, tA, tB, tU] 9))
  have HR := Lib.hid (order_ok (w2.alloc (.cells #[tB, tA, tB, tU] 9)) (Blk.new _ _ _))
  go_wp2_with fail
  refine HR.out.mono ?_
  clear HR
  rintro e w3 ⟨⟨a, c, rfl⟩, hO3⟩
  have HO3 := Lib.hid (HO2.out.trans hO3)
  have HA := Lib.hid (catalog_ok w3)
  have HB := Lib.hid (kind_cat w3)
  clear hO3
  go_wp2_with fail
  refine HA.out.mono ?_
  clear HA
  rintro e w4 ⟨rfl, rfl⟩
  go_wp2_with fail
  refine HB.out.mono ?_
  clear HB
  rintro e w4 ⟨rfl, rfl⟩
  have HA := Lib.hid (next_ok w4)
  have HB := Lib.hid (kind_next w4)
  go_wp2_with fail
  refine HA.out.mono ?_
  clear HA
  rintro e w5 ⟨rfl, rfl⟩
  go_wp2_with fail
  refine HB.out.mono ?_
  clear HB
  rintro e w5 ⟨rfl, rfl⟩
  have HA := Lib.hid (anew_ok w5)
  have HB := Lib.hid (kind_anew w5)
  go_wp2_with fail
  refine HA.out.mono ?_
  clear HA
  rintro e w6 ⟨rfl, rfl⟩
  go_wp2_with fail
  refine HB.out.mono ?_
  clear HB
  rintro e w6 ⟨rfl, rfl⟩
  go_wp2
  go_ret
  exact ⟨rfl, HO3.out⟩
end Go.Proofs.Ytbcckaaleoofhaa
