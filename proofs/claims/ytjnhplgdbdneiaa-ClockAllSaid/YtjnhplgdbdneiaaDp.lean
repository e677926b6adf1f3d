/-
  ClockNone: the walk.
-/
import Derived.Test.YtjnhplgdbdneiaaDo
set_option linter.unusedSimpArgs false
set_option linter.unusedVariables false
namespace Go.Proofs.Ytjnhplgdbdneiaa
open Go.RowKit Go.Fl

set_option maxRecDepth 1000000 in
set_option maxHeartbeats 6400000 in
theorem none6 (w : World) (u id : Int) : Calls Try.prog 6 #[.int .u64 u, iv id] w fun e w' => e = .returned (.bool true) ∧ Only [] w w' := by
  have e1 := e10
  have HQ := Lib.hid (begun7 w)
  go_enter Try.func6, Try.ntmps6
  go_wp2_with fail
  refine HQ.out.mono ?_
  clear HQ
  rintro e w1 ⟨rfl, ho⟩
  have HO1 := Lib.hid ho
  clear ho
  have HB1 := Lib.hid (show Blk ((w1.alloc (.cells #[.bool false, fv 0, iv 0, .slice none 0 0] 60)).alloc (.cells #[.pointer none, cp w1.heap.size] 25)) w1.heap.size 60 #[.bool false, fv 0, iv 0, .slice none 0 0] from (Blk.new _ _ _).alloc _)
  have HB2 := Lib.hid (show Blk ((w1.alloc (.cells #[.bool false, fv 0, iv 0, .slice none 0 0] 60)).alloc (.cells #[.pointer none, cp w1.heap.size] 25)) (w1.heap.size + 1) 25 #[.pointer none, cp w1.heap.size] by have := Blk.new (w1.alloc (.cells #[.bool false, fv 0, iv 0, .slice none 0 0] 60)) 25 #[.pointer none, cp w1.heap.size]; simpa using this)
  have HO2 := Lib.hid (show Only [] w ((w1.alloc (.cells #[.bool false, fv 0, iv 0, .slice none 0 0] 60)).alloc (.cells #[.pointer none, cp w1.heap.size] 25)) from (HO1.out.alloc _).alloc _)
  go_wp2
  go_loopw [8] (fun z wr => ∃ k : Nat, k ≤ 2 ∧ z = .int .i64 k ∧ Hid (Blk wr w1.heap.size 60 #[.bool false, fv 0, iv 0, .slice none 0 0] ∧ Blk wr (w1.heap.size + 1) 25 #[.pointer none, cp w1.heap.size]) ∧ Hid (Only [] w wr)) (fun z _ => 2 - (intOf z).toNat)
  case atStart => exact ⟨0, by omega, rfl, Lib.hid ⟨HB1.out, HB2.out⟩, HO2⟩
  case round =>
    obtain ⟨k, hk, rfl, HB, HO⟩ := hrel
    by_cases hk2 : k = 2
    · subst hk2
      go_wp2
      exact bodyPost_ret (results_tmp rfl _ _ _) rfl ⟨rfl, HO.out⟩
    have HK := Lib.hid (show k < 2 by omega)
    have hkz : (k : Int) < 2 := by omega
    have hc : ∃ c, NoC wr c ∧ wr.cell? ⟨w1.heap.size + 1, k, none⟩ = some c := by
      have h0 := HB.out.1.cell 0
      simp at h0
      have hkk : k = 0 ∨ k = 1 := by omega
      rcases hkk with rfl | rfl
      · have h1 := HB.out.2.cell 0
        simp at h1
        exact ⟨_, .inl rfl, h1⟩
      · have h1 := HB.out.2.cell 1
        simp at h1
        exact ⟨_, .inr ⟨_, rfl, h0⟩, h1⟩
    obtain ⟨c, hc, hx⟩ := hc
    have HC := Lib.hid hc
    have HX := Lib.hid hx
    clear hc hk hk2
    have h3 : (FloatKind.f64.format.order 0 0 != some .eq) = false := by
      have := ford_eq isN_zero isN_zero
      rw [decide_eq_true rfl] at this
      show (!(ford 0 0 == some .eq)) = false
      rw [this]
      rfl
    have HQ := Lib.hid (after_no wr HC.out u.toNat)
    go_wp2_with fail
    refine HQ.out.mono ?_
    clear HQ
    rintro e w2 ⟨rfl, rfl⟩
    have HQ := Lib.hid (next_no w2 HC.out)
    go_wp2_with fail
    refine HQ.out.mono ?_
    clear HQ
    rintro e w3 ⟨rfl, rfl⟩
    have HQ := Lib.hid (go_no w3 HC.out u.toNat)
    go_wp2_with fail
    refine HQ.out.mono ?_
    clear HQ
    rintro e w4 ⟨rfl, rfl⟩
    have HQ := Lib.hid (now_no HC.out)
    go_wp2_with fail
    refine HQ.out.mono ?_
    clear HQ
    rintro e w5 ⟨rfl, rfl⟩
    have HQ := Lib.hid (cancel_no w5 HC.out id)
    go_wp2_with fail
    refine HQ.out.mono ?_
    clear HQ
    rintro e w6 ⟨rfl, ho⟩
    have HO6 := Lib.hid ho
    have HB6 := Lib.hid (And.intro (HB.out.1.only ho (by simp)) (HB.out.2.only ho (by simp)))
    have HC6 := Lib.hid (HC.out.only0 ho)
    have x6 : w6.cell? ⟨w1.heap.size + 1, k, none⟩ = some c := (ho.cell (p := ⟨w1.heap.size + 1, k, none⟩) HB.out.2.lt (by simp)).trans HX.out
    clear ho hx
    have HQ := Lib.hid (jump_no w6 HC6.out)
    go_wp2_with fail
    refine HQ.out.mono ?_
    clear HQ
    rintro e w7 ⟨rfl, rfl⟩
    have HQ := Lib.hid (timers_no w7 HC6.out)
    go_wp2_with fail
    refine HQ.out.mono ?_
    clear HQ
    rintro e w8 ⟨rfl, rfl⟩
    have HO8 := Lib.hid (HO.out.trans HO6.out)
    have e2 : wrap64 ((k : Int) + 1) = ((k + 1 : Nat) : Int) := wrap_to (by omega) (by omega)
    go_wp2
    go_roundw
    case measure => (try rw [e2]); exact (show 2 - (k + 1) < 2 - k by have := HK.out; omega)
    case rel => exact ⟨k + 1, by have := HK.out; omega, by first | rw [e2] | rfl, HB6, HO8⟩
end Go.Proofs.Ytjnhplgdbdneiaa
