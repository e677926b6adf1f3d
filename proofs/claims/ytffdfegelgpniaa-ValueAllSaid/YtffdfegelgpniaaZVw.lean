/-
  begun.
-/
import Derived.Test.YtffdfegelgpniaaZVv
set_option linter.unusedSimpArgs false
set_option linter.unusedVariables false
set_option linter.unusedSimpArgs false
set_option linter.unusedVariables false
namespace Go.Proofs.Ytffdfegelgpniaa
open Go.RowKit Go.Fl

abbrev v1 : V := .mk 1 0 0 ⟨#[]⟩ []
abbrev v2 : V := .mk 2 1 0 ⟨#[]⟩ []
abbrev v6 : V := .mk 6 0 0 ⟨#[]⟩ [v1, v2]
theorem v6_item : v6.item = some (.list [.void, .truth 1]) := by kernel_rfl
theorem v6_read : pread [6, 1, 2, 1, 0, 9] = .ok v6 5 65533 := by kernel_rfl
theorem bad_read : pread [2, 2] = .bad 1 4 := by kernel_rfl
theorem v6_cmp : v1.cmp v6 = -1 := by kernel_rfl
theorem v6_size : v6.size = 3 := by kernel_rfl
theorem v6_eq : eqV v6 v6 = true := by kernel_rfl
theorem bytes_new (w : World) (bs : List Nat) (h : ∀ c ∈ bs, c < 256) (hm : bs.length ≤ maxLen) : BytesV (w.alloc (.cells (bs.map bv).toArray 5)) (fun _ => True) bs (.slice (some ⟨w.heap.size, 0, none⟩) bs.length bs.length) :=
  ⟨_, _, rfl, Nat.le_refl _, hm, h, fun _ => ⟨_, _, rfl, by simp, trivial, fun j hj => by
    have := (Blk.new w 5 (bs.map bv).toArray).cell (0 + j)
    rw [this]
    simp [hj]⟩⟩
theorem v1_vis (w : World) : VIs w (fun _ => True) v1 [iv 1, iv 0, fv 0, .string ⟨#[]⟩, .slice none 0 0] :=
  .mk (l := []) (fun _ => []) (by decide) (by decide) (by omega) (Nat.zero_le _) (Nat.zero_le _) (Nat.zero_le _) (fun h => absurd h (Nat.not_lt_zero _)) fun j h => absurd h (Nat.not_lt_zero _)
set_option maxRecDepth 100000 in
set_option maxHeartbeats 6400000 in
theorem begun_ok (w : World) : Calls Try.prog 9 #[] w fun e w' => e = .returned (.bool true) ∧ Only [] w w' := by
  go_enter Try.func9, Try.ntmps9
  go_wp2_with (refine wpList_store_blk rfl 33 (.tmp 1) (.tmp 13) rfl [iv 6, iv 0, fv 0, .string ⟨#[]⟩, .slice (some ⟨w.heap.size, 0, none⟩) 2 2] rfl rfl (by have := Blk.new (w.alloc (.cells #[.int .i64 1, .int .i64 0, .float .f64 0, .string ⟨#[]⟩, .slice none 0 0, .int .i64 2, .int .i64 1, .float .f64 0, .string ⟨#[]⟩, .slice none 0 0] 33)) 33 zeroV.toArray; rw [show (w.alloc (.cells #[.int .i64 1, .int .i64 0, .float .f64 0, .string ⟨#[]⟩, .slice none 0 0, .int .i64 2, .int .i64 1, .float .f64 0, .string ⟨#[]⟩, .slice none 0 0] 33)).heap.size = w.heap.size + 1 by simp] at this; exact this) (by kernel_rfl) (by simp) (by simp [Value.oneCell']) ?_)
  intro w1 hB1 hO1
  have hA1 : Blk w1 w.heap.size 33 #[.int .i64 1, .int .i64 0, .float .f64 0, .string ⟨#[]⟩, .slice none 0 0, .int .i64 2, .int .i64 1, .float .f64 0, .string ⟨#[]⟩, .slice none 0 0] := ((Blk.new w _ _).alloc _).only hO1 (by simp)
  have HO1 := Lib.hid (show Only [] w w1 from (((Only.refl [] w).alloc _).alloc _).trans' hO1 (fun i hi => .inr (by simp at hi; omega)))
  have HV1 := Lib.hid (show VIs w1 (fun _ => True) v6 [iv 6, iv 0, fv 0, .string ⟨#[]⟩, .slice (some ⟨w.heap.size, 0, none⟩) 2 2] from
    .mk (l := [v1, v2]) (fun j => if j = 0 then [iv 1, iv 0, fv 0, .string ⟨#[]⟩, .slice none 0 0] else [iv 2, iv 1, fv 0, .string ⟨#[]⟩, .slice none 0 0]) (by decide) (by decide) (by omega) (Nat.zero_le _) (Nat.le_refl _) (by decide)
      (fun _ => ⟨_, _, rfl, hA1.lt, trivial, fun j c u hj hu => by
        have hj2 : j = 0 ∨ j = 1 := by simp at hj; omega
        have hc5 : c < 5 := by
          by_cases hh : c < 5
          · exact hh
          · rcases hj2 with rfl | rfl <;> (rw [List.getElem?_eq_none (by simp; omega)] at hu; cases hu)
        rw [hA1.cell]
        rcases hj2 with rfl | rfl <;> (have : c = 0 ∨ c = 1 ∨ c = 2 ∨ c = 3 ∨ c = 4 := by omega) <;> (rcases this with rfl | rfl | rfl | rfl | rfl <;> simpa using hu)⟩)
      (fun j hj => by
        have hj2 : j = 0 ∨ j = 1 := by simp at hj; omega
        rcases hj2 with rfl | rfl
        · exact .mk (l := []) (fun _ => []) (by decide) (by decide) (by omega) (Nat.zero_le _) (Nat.zero_le _) (Nat.zero_le _) (fun h => absurd h (Nat.not_lt_zero _)) fun j h => absurd h (Nat.not_lt_zero _)
        · exact .mk (l := []) (fun _ => []) (by decide) (by decide) (by omega) (Nat.zero_le _) (Nat.zero_le _) (Nat.zero_le _) (fun h => absurd h (Nat.not_lt_zero _)) fun j h => absurd h (Nat.not_lt_zero _)))
  have HB1 := Lib.hid hB1
  have HA1 := Lib.hid hA1
  have y0 := hB1.cell 0
  have y1 := hB1.cell 1
  have y2 := hB1.cell 2
  have y3 := hB1.cell 3
  have y4 := hB1.cell 4
  simp at y0 y1 y2 y3 y4
  clear hA1 hB1 hO1
  have HK := Lib.hid (Key_ok HV1.out)
  rw [v6_item] at HK
  go_wp2_with fail
  refine HK.out.mono ?_
  clear HK y0 y1 y2 y3 y4
  rintro e w2 ⟨kv, rfl, hsl, _, ho⟩
  have HK2 := Lib.hid (bytes_of_sl (bs := [6, 1, 2, 1, 0]) hsl (by decide))
  have HO2 := Lib.hid (HO1.out.trans ho)
  have HV2 := Lib.hid (HV1.out.only0 ho)
  have HB2 := Lib.hid (HB1.out.only ho (by simp))
  have HA2 := Lib.hid (HA1.out.only ho (by simp))
  clear hsl ho HO1 HV1 HB1 HA1
  have HR := Lib.hid (read_ok (bytes_new w2 [6, 1, 2, 1, 0, 9] (by decide) (by decide)) (by decide))
  rw [v6_read] at HR
  go_wp2_with fail
  refine HR.out.mono ?_
  clear HR
  rintro e w3 ⟨cs, S, rfl, hvo, _, _, ho⟩
  obtain ⟨k0, i0, r0, t0, sa0, sn0, sc0, rfl⟩ := hvo.form
  have hO23 : Only [] w2 w3 := ((Only.refl _ w2).alloc _).trans ho
  have HW3 := Lib.hid hvo.vis
  have HK3 := Lib.hid (HK2.out.only hO23 (fun _ _ => by simp))
  have HO3 := Lib.hid (HO2.out.trans hO23)
  have HV3 := Lib.hid (HV2.out.only0 hO23)
  have HB3 := Lib.hid (HB2.out.only hO23 (by simp))
  have HA3 := Lib.hid (HA2.out.only hO23 (by simp))
  clear hvo ho hO23 HK2 HO2 HV2 HB2 HA2
  go_wp2_with (refine wpList_store_blk rfl 33 (.tmp 4) (.tmp 22) rfl [iv k0, iv i0, fv r0, .string t0, .slice sa0 sn0 sc0] rfl rfl (Blk.new _ _ _) (by kernel_rfl) (by simp) (by simp [Value.oneCell']) ?_)
  intro w4 hB4 hO4
  have hO34 : Only [] w3 w4 := ((Only.refl [] w3).alloc _).trans' hO4 (fun i hi => .inr (by simp at hi; omega))
  have HC4 := Lib.hid (show Blk w4 w3.heap.size 33 #[iv k0, iv i0, fv r0, .string t0, .slice sa0 sn0 sc0] from hB4)
  have HW4 := Lib.hid (HW3.out.only0 hO34)
  have HK4 := Lib.hid (HK3.out.only hO34 (fun _ _ => by simp))
  have HO4 := Lib.hid (HO3.out.trans hO34)
  have HV4 := Lib.hid (HV3.out.only0 hO34)
  have HB4 := Lib.hid (HB3.out.only hO34 (by simp))
  have HA4 := Lib.hid (HA3.out.only hO34 (by simp))
  clear hB4 hO4 hO34 HW3 HK3 HO3 HV3 HB3 HA3
  have HR := Lib.hid (read_ok (bytes_new w4 [2, 2] (by decide) (by decide)) (by decide))
  rw [bad_read] at HR
  go_wp2_with fail
  refine HR.out.mono ?_
  clear HR
  rintro e w5 ⟨rfl, ho⟩
  have hO45 : Only [] w4 w5 := ((Only.refl _ w4).alloc _).trans ho
  have HC5 := Lib.hid (HC4.out.only hO45 (by simp))
  have HW5 := Lib.hid (HW4.out.only0 hO45)
  have HK5 := Lib.hid (HK4.out.only hO45 (fun _ _ => by simp))
  have HO5 := Lib.hid (HO4.out.trans hO45)
  have HV5 := Lib.hid (HV4.out.only0 hO45)
  have HB5 := Lib.hid (HB4.out.only hO45 (by simp))
  have HA5 := Lib.hid (HA4.out.only hO45 (by simp))
  clear ho hO45 HC4 HW4 HK4 HO4 HV4 HB4 HA4
  go_wp2_with (refine wpList_store_blk rfl 33 (.tmp 7) (.tmp 28) rfl zeroV rfl rfl (Blk.new _ _ _) (by kernel_rfl) (by simp) (by simp [Value.oneCell']) ?_)
  intro w6 hB6 hO6
  have hO56 : Only [] w5 w6 := ((Only.refl [] w5).alloc _).trans' hO6 (fun i hi => .inr (by simp at hi; omega))
  have HC6 := Lib.hid (HC5.out.only hO56 (by simp))
  have HW6 := Lib.hid (HW5.out.only0 hO56)
  have HK6 := Lib.hid (HK5.out.only hO56 (fun _ _ => by simp))
  have HO6 := Lib.hid (HO5.out.trans hO56)
  have HV6 := Lib.hid (HV5.out.only0 hO56)
  have HB6 := Lib.hid (HB5.out.only hO56 (by simp))
  have HA6 := Lib.hid (HA5.out.only hO56 (by simp))
  clear hB6 hO6 hO56 HC5 HW5 HK5 HO5 HV5 HB5 HA5
  go_wp2
  refine Lex.wp_region_text (by kernel_rfl) (by kernel_rfl) ?_
  have HQ := Lib.hid (eqB_ok (HK6.out.only ((Only.refl [] w6).alloc (.cells ([6, 1, 2, 1, 0].map bv).toArray 5)).drew (fun _ _ => by simp)) ((bytes_new w6 [6, 1, 2, 1, 0] (by decide) (by decide)).only (Only.refl [] _).drew (fun _ _ => by simp)))
  rw [show decide ([6, 1, 2, 1, 0] = [6, 1, 2, 1, 0]) = true by decide] at HQ
  go_wp2_with fail
  refine HQ.out.mono ?_
  clear HQ
  rintro e w7 ⟨rfl, ho⟩
  have hO67 : Only [] w6 w7 := ((Only.refl _ w6).alloc _).drew.trans ho
  have HB7 := Lib.hid (HB6.out.only hO67 (by simp))
  have HC7 := Lib.hid (HC6.out.only hO67 (by simp))
  have HA7 := Lib.hid (HA6.out.only hO67 (by simp))
  have HV7 := Lib.hid (HV6.out.only0 hO67)
  have HW7 := Lib.hid (HW6.out.only0 hO67)
  have HO7 := Lib.hid (HO6.out.trans hO67)
  have x0 := HC7.out.cell 0
  have x1 := HC7.out.cell 1
  have x2 := HC7.out.cell 2
  have x3 := HC7.out.cell 3
  have x4 := HC7.out.cell 4
  have y0 := HB7.out.cell 0
  have y1 := HB7.out.cell 1
  have y2 := HB7.out.cell 2
  have y3 := HB7.out.cell 3
  have y4 := HB7.out.cell 4
  simp at x0 x1 x2 x3 x4 y0 y1 y2 y3 y4
  clear ho hO67
  have HQ := Lib.hid (eq_ok v6 _ _ _ v6 _ _ HW7.out HV7.out)
  rw [v6_eq] at HQ
  go_wp2_with fail
  refine HQ.out.mono ?_
  clear HQ x0 x1 x2 x3 x4 y0 y1 y2 y3 y4
  rintro e w8 ⟨rfl, ho⟩
  have HB8 := Lib.hid (HB7.out.only ho (by simp))
  have HA8 := Lib.hid (HA7.out.only ho (by simp))
  have HV8 := Lib.hid (HV7.out.only0 ho)
  have HO8 := Lib.hid (HO7.out.trans ho)
  have y0 := HB8.out.cell 0
  have y1 := HB8.out.cell 1
  have y2 := HB8.out.cell 2
  have y3 := HB8.out.cell 3
  have y4 := HB8.out.cell 4
  simp at y0 y1 y2 y3 y4
  clear ho
  have HQ := Lib.hid (vsize_ok HV8.out)
  rw [v6_size] at HQ
  go_wp2_with fail
  refine HQ.out.mono ?_
  clear HQ y0 y1 y2 y3 y4
  rintro e w9 ⟨rfl, ho⟩
  have HB9 := Lib.hid (HB8.out.only ho (by simp))
  have HA9 := Lib.hid (HA8.out.only ho (by simp))
  have HV9 := Lib.hid (HV8.out.only0 ho)
  have HO9 := Lib.hid (HO8.out.trans ho)
  have y0 := HB9.out.cell 0
  have y1 := HB9.out.cell 1
  have y2 := HB9.out.cell 2
  have y3 := HB9.out.cell 3
  have y4 := HB9.out.cell 4
  have z0 := HA9.out.cell 0
  have z1 := HA9.out.cell 1
  have z2 := HA9.out.cell 2
  have z3 := HA9.out.cell 3
  have z4 := HA9.out.cell 4
  simp at y0 y1 y2 y3 y4 z0 z1 z2 z3 z4
  clear ho
  have HQ := Lib.hid (compare_ok (v1_vis w9) HV9.out)
  rw [v6_cmp] at HQ
  go_wp2_with fail
  refine HQ.out.mono ?_
  clear HQ y0 y1 y2 y3 y4 z0 z1 z2 z3 z4
  rintro e w10 ⟨rfl, ho⟩
  have HO10 := Lib.hid (HO9.out.trans ho)
  clear ho
  go_wp2
  refine Lex.sq_done (by rfl) ?_
  go_wp2
  exact bodyPost_ret (results_tmp rfl _ _ _) rfl ⟨rfl, HO10.out⟩
end Go.Proofs.Ytffdfegelgpniaa
