/-
  The document's Compare and Same.
-/
import Derived.Test.YtffdfegelgpniaaZDd
set_option linter.unusedSimpArgs false
set_option linter.unusedVariables false
set_option linter.unusedSimpArgs false
set_option linter.unusedVariables false
namespace Go.Proofs.Ytffdfegelgpniaa
open Go.RowKit Go.Fl

set_option maxRecDepth 100000 in
set_option maxHeartbeats 3200000 in
theorem compare2_ok {w : World} {F G : Nat → Prop} {a b : V} {cs ds : List Value} (ha : VIs w F a cs) (hb : VIs w G b ds) : Calls Try.prog 32 #[.agg cs.toArray, .agg ds.toArray] w fun e w' => e = .returned (iv (a.cmp b)) ∧ Only [] w w' := by
  obtain ⟨k, i, r, t, s, n, cap, rfl⟩ := ha.five
  obtain ⟨k2, i2, r2, t2, s2, n2, cap2, rfl⟩ := hb.five
  obtain ⟨w0, hw0⟩ : ∃ x : World, x = (w.alloc (.cells #[iv k, iv i, fv r, .string t, .slice s n cap] 33)).alloc (.cells #[iv k2, iv i2, fv r2, .string t2, .slice s2 n2 cap2] 33) := ⟨_, rfl⟩
  have HW0 := Lib.hid hw0
  have HO0 := Lib.hid (show Only [] w w0 by rw [hw0]; exact ((Only.refl _ w).alloc _).alloc _)
  have HB1 := Lib.hid (show Blk w0 w.heap.size 33 #[iv k, iv i, fv r, .string t, .slice s n cap] by rw [hw0]; exact (Blk.new _ _ _).alloc _)
  have HB2 := Lib.hid (show Blk w0 (w.heap.size + 1) 33 #[iv k2, iv i2, fv r2, .string t2, .slice s2 n2 cap2] by rw [hw0]; have := Blk.new (w.alloc (.cells #[iv k, iv i, fv r, .string t, .slice s n cap] 33)) 33 #[iv k2, iv i2, fv r2, .string t2, .slice s2 n2 cap2]; simpa using this)
  clear hw0
  have HA := Lib.hid (ha.only0 HO0.out)
  have HB := Lib.hid (hb.only0 HO0.out)
  clear ha hb
  have HMA := Lib.hid (fun w' (ho : Only [] w0 w') => may2_ok (HA.out.only0 ho))
  have HMB := Lib.hid (fun w' (ho : Only [] w0 w') => may2_ok (HB.out.only0 ho))
  have HE := Lib.hid (show a.cmp b = match a.item, b.item with | none, none => 0 | none, some _ => 1 | some _, none => -1 | some x, some y => x.cmp y from rfl)
  have HOR := Lib.hid (fun x y (hx : a.item = some x) (hy : b.item = some y) => item_ord hx hy)
  cases hx : a.item with
  | none =>
    have hma : a.may = false := by unfold V.may; rw [hx]; rfl
    cases hy : b.item with
    | none =>
      have hmb : b.may = false := by unfold V.may; rw [hy]; rfl
      rw [hx, hy] at HE
      rw [hma] at HMA
      rw [hmb] at HMB
      clear hx hy hma hmb
      go_enter Try.func32, Try.ntmps32
      go_wp2_with fail
      rw [← HW0.out]
      refine (HMA.out _ (Only.refl _ _)).mono ?_
      rintro e w1 ⟨rfl, ho⟩
      have HO1 := Lib.hid ho
      clear ho
      have p0 := (HB1.out.only HO1.out (by simp)).cell 0
      have p1 := (HB1.out.only HO1.out (by simp)).cell 1
      have p2 := (HB1.out.only HO1.out (by simp)).cell 2
      have p3 := (HB1.out.only HO1.out (by simp)).cell 3
      have p4 := (HB1.out.only HO1.out (by simp)).cell 4
      simp at p0 p1 p2 p3 p4
      have q0 := (HB2.out.only HO1.out (by simp)).cell 0
      have q1 := (HB2.out.only HO1.out (by simp)).cell 1
      have q2 := (HB2.out.only HO1.out (by simp)).cell 2
      have q3 := (HB2.out.only HO1.out (by simp)).cell 3
      have q4 := (HB2.out.only HO1.out (by simp)).cell 4
      simp at q0 q1 q2 q3 q4
      go_wp2_with fail
      refine (HMB.out _ HO1.out).mono ?_
      clear p0 p1 p2 p3 p4 q0 q1 q2 q3 q4
      rintro e w2 ⟨rfl, ho⟩
      have HO2 := Lib.hid (HO1.out.trans ho)
      clear ho
      have p0 := (HB1.out.only HO2.out (by simp)).cell 0
      have p1 := (HB1.out.only HO2.out (by simp)).cell 1
      have p2 := (HB1.out.only HO2.out (by simp)).cell 2
      have p3 := (HB1.out.only HO2.out (by simp)).cell 3
      have p4 := (HB1.out.only HO2.out (by simp)).cell 4
      simp at p0 p1 p2 p3 p4
      have q0 := (HB2.out.only HO2.out (by simp)).cell 0
      have q1 := (HB2.out.only HO2.out (by simp)).cell 1
      have q2 := (HB2.out.only HO2.out (by simp)).cell 2
      have q3 := (HB2.out.only HO2.out (by simp)).cell 3
      have q4 := (HB2.out.only HO2.out (by simp)).cell 4
      simp at q0 q1 q2 q3 q4
      go_wp2
      exact bodyPost_ret (results_tmp rfl _ _ _) rfl ⟨by rw [HE.out]; rfl, HO0.out.trans HO2.out⟩
    | some y =>
      have hmb : b.may = true := by unfold V.may; rw [hy]; rfl
      rw [hx, hy] at HE
      rw [hma] at HMA
      rw [hmb] at HMB
      clear hx hy hma hmb
      go_enter Try.func32, Try.ntmps32
      go_wp2_with fail
      rw [← HW0.out]
      refine (HMA.out _ (Only.refl _ _)).mono ?_
      rintro e w1 ⟨rfl, ho⟩
      have HO1 := Lib.hid ho
      clear ho
      have p0 := (HB1.out.only HO1.out (by simp)).cell 0
      have p1 := (HB1.out.only HO1.out (by simp)).cell 1
      have p2 := (HB1.out.only HO1.out (by simp)).cell 2
      have p3 := (HB1.out.only HO1.out (by simp)).cell 3
      have p4 := (HB1.out.only HO1.out (by simp)).cell 4
      simp at p0 p1 p2 p3 p4
      have q0 := (HB2.out.only HO1.out (by simp)).cell 0
      have q1 := (HB2.out.only HO1.out (by simp)).cell 1
      have q2 := (HB2.out.only HO1.out (by simp)).cell 2
      have q3 := (HB2.out.only HO1.out (by simp)).cell 3
      have q4 := (HB2.out.only HO1.out (by simp)).cell 4
      simp at q0 q1 q2 q3 q4
      go_wp2_with fail
      refine (HMB.out _ HO1.out).mono ?_
      clear p0 p1 p2 p3 p4 q0 q1 q2 q3 q4
      rintro e w2 ⟨rfl, ho⟩
      have HO2 := Lib.hid (HO1.out.trans ho)
      clear ho
      have p0 := (HB1.out.only HO2.out (by simp)).cell 0
      have p1 := (HB1.out.only HO2.out (by simp)).cell 1
      have p2 := (HB1.out.only HO2.out (by simp)).cell 2
      have p3 := (HB1.out.only HO2.out (by simp)).cell 3
      have p4 := (HB1.out.only HO2.out (by simp)).cell 4
      simp at p0 p1 p2 p3 p4
      have q0 := (HB2.out.only HO2.out (by simp)).cell 0
      have q1 := (HB2.out.only HO2.out (by simp)).cell 1
      have q2 := (HB2.out.only HO2.out (by simp)).cell 2
      have q3 := (HB2.out.only HO2.out (by simp)).cell 3
      have q4 := (HB2.out.only HO2.out (by simp)).cell 4
      simp at q0 q1 q2 q3 q4
      go_wp2_with fail
      refine (HMA.out _ HO2.out).mono ?_
      clear p0 p1 p2 p3 p4 q0 q1 q2 q3 q4
      rintro e w3 ⟨rfl, ho⟩
      have HO3 := Lib.hid (HO2.out.trans ho)
      clear ho
      have p0 := (HB1.out.only HO3.out (by simp)).cell 0
      have p1 := (HB1.out.only HO3.out (by simp)).cell 1
      have p2 := (HB1.out.only HO3.out (by simp)).cell 2
      have p3 := (HB1.out.only HO3.out (by simp)).cell 3
      have p4 := (HB1.out.only HO3.out (by simp)).cell 4
      simp at p0 p1 p2 p3 p4
      have q0 := (HB2.out.only HO3.out (by simp)).cell 0
      have q1 := (HB2.out.only HO3.out (by simp)).cell 1
      have q2 := (HB2.out.only HO3.out (by simp)).cell 2
      have q3 := (HB2.out.only HO3.out (by simp)).cell 3
      have q4 := (HB2.out.only HO3.out (by simp)).cell 4
      simp at q0 q1 q2 q3 q4
      go_wp2
      exact bodyPost_ret (results_tmp rfl _ _ _) rfl ⟨by rw [HE.out]; rfl, HO0.out.trans HO3.out⟩
  | some x =>
    have hma : a.may = true := by unfold V.may; rw [hx]; rfl
    cases hy : b.item with
    | none =>
      have hmb : b.may = false := by unfold V.may; rw [hy]; rfl
      rw [hx, hy] at HE
      rw [hma] at HMA
      rw [hmb] at HMB
      clear hx hy hma hmb
      go_enter Try.func32, Try.ntmps32
      go_wp2_with fail
      rw [← HW0.out]
      refine (HMA.out _ (Only.refl _ _)).mono ?_
      rintro e w1 ⟨rfl, ho⟩
      have HO1 := Lib.hid ho
      clear ho
      have p0 := (HB1.out.only HO1.out (by simp)).cell 0
      have p1 := (HB1.out.only HO1.out (by simp)).cell 1
      have p2 := (HB1.out.only HO1.out (by simp)).cell 2
      have p3 := (HB1.out.only HO1.out (by simp)).cell 3
      have p4 := (HB1.out.only HO1.out (by simp)).cell 4
      simp at p0 p1 p2 p3 p4
      have q0 := (HB2.out.only HO1.out (by simp)).cell 0
      have q1 := (HB2.out.only HO1.out (by simp)).cell 1
      have q2 := (HB2.out.only HO1.out (by simp)).cell 2
      have q3 := (HB2.out.only HO1.out (by simp)).cell 3
      have q4 := (HB2.out.only HO1.out (by simp)).cell 4
      simp at q0 q1 q2 q3 q4
      go_wp2_with fail
      refine (HMA.out _ HO1.out).mono ?_
      clear p0 p1 p2 p3 p4 q0 q1 q2 q3 q4
      rintro e w2 ⟨rfl, ho⟩
      have HO2 := Lib.hid (HO1.out.trans ho)
      clear ho
      have p0 := (HB1.out.only HO2.out (by simp)).cell 0
      have p1 := (HB1.out.only HO2.out (by simp)).cell 1
      have p2 := (HB1.out.only HO2.out (by simp)).cell 2
      have p3 := (HB1.out.only HO2.out (by simp)).cell 3
      have p4 := (HB1.out.only HO2.out (by simp)).cell 4
      simp at p0 p1 p2 p3 p4
      have q0 := (HB2.out.only HO2.out (by simp)).cell 0
      have q1 := (HB2.out.only HO2.out (by simp)).cell 1
      have q2 := (HB2.out.only HO2.out (by simp)).cell 2
      have q3 := (HB2.out.only HO2.out (by simp)).cell 3
      have q4 := (HB2.out.only HO2.out (by simp)).cell 4
      simp at q0 q1 q2 q3 q4
      go_wp2_with fail
      refine (HMB.out _ HO2.out).mono ?_
      clear p0 p1 p2 p3 p4 q0 q1 q2 q3 q4
      rintro e w3 ⟨rfl, ho⟩
      have HO3 := Lib.hid (HO2.out.trans ho)
      clear ho
      have p0 := (HB1.out.only HO3.out (by simp)).cell 0
      have p1 := (HB1.out.only HO3.out (by simp)).cell 1
      have p2 := (HB1.out.only HO3.out (by simp)).cell 2
      have p3 := (HB1.out.only HO3.out (by simp)).cell 3
      have p4 := (HB1.out.only HO3.out (by simp)).cell 4
      simp at p0 p1 p2 p3 p4
      have q0 := (HB2.out.only HO3.out (by simp)).cell 0
      have q1 := (HB2.out.only HO3.out (by simp)).cell 1
      have q2 := (HB2.out.only HO3.out (by simp)).cell 2
      have q3 := (HB2.out.only HO3.out (by simp)).cell 3
      have q4 := (HB2.out.only HO3.out (by simp)).cell 4
      simp at q0 q1 q2 q3 q4
      go_wp2
      exact bodyPost_ret (results_tmp rfl _ _ _) rfl ⟨by rw [HE.out]; rfl, HO0.out.trans HO3.out⟩
    | some y =>
      have hmb : b.may = true := by unfold V.may; rw [hy]; rfl
      have HD := Lib.hid (show a.cmp b = a.ord b by rw [HOR.out x y hx hy, HE.out, hx, hy])
      rw [hma] at HMA
      rw [hmb] at HMB
      clear hx hy hma hmb HE
      go_enter Try.func32, Try.ntmps32
      go_wp2_with fail
      rw [← HW0.out]
      refine (HMA.out _ (Only.refl _ _)).mono ?_
      rintro e w1 ⟨rfl, ho⟩
      have HO1 := Lib.hid ho
      clear ho
      have p0 := (HB1.out.only HO1.out (by simp)).cell 0
      have p1 := (HB1.out.only HO1.out (by simp)).cell 1
      have p2 := (HB1.out.only HO1.out (by simp)).cell 2
      have p3 := (HB1.out.only HO1.out (by simp)).cell 3
      have p4 := (HB1.out.only HO1.out (by simp)).cell 4
      simp at p0 p1 p2 p3 p4
      have q0 := (HB2.out.only HO1.out (by simp)).cell 0
      have q1 := (HB2.out.only HO1.out (by simp)).cell 1
      have q2 := (HB2.out.only HO1.out (by simp)).cell 2
      have q3 := (HB2.out.only HO1.out (by simp)).cell 3
      have q4 := (HB2.out.only HO1.out (by simp)).cell 4
      simp at q0 q1 q2 q3 q4
      go_wp2_with fail
      refine (HMA.out _ HO1.out).mono ?_
      clear p0 p1 p2 p3 p4 q0 q1 q2 q3 q4
      rintro e w2 ⟨rfl, ho⟩
      have HO2 := Lib.hid (HO1.out.trans ho)
      clear ho
      have p0 := (HB1.out.only HO2.out (by simp)).cell 0
      have p1 := (HB1.out.only HO2.out (by simp)).cell 1
      have p2 := (HB1.out.only HO2.out (by simp)).cell 2
      have p3 := (HB1.out.only HO2.out (by simp)).cell 3
      have p4 := (HB1.out.only HO2.out (by simp)).cell 4
      simp at p0 p1 p2 p3 p4
      have q0 := (HB2.out.only HO2.out (by simp)).cell 0
      have q1 := (HB2.out.only HO2.out (by simp)).cell 1
      have q2 := (HB2.out.only HO2.out (by simp)).cell 2
      have q3 := (HB2.out.only HO2.out (by simp)).cell 3
      have q4 := (HB2.out.only HO2.out (by simp)).cell 4
      simp at q0 q1 q2 q3 q4
      go_wp2_with fail
      refine (HMB.out _ HO2.out).mono ?_
      clear p0 p1 p2 p3 p4 q0 q1 q2 q3 q4
      rintro e w3 ⟨rfl, ho⟩
      have HO3 := Lib.hid (HO2.out.trans ho)
      clear ho
      have p0 := (HB1.out.only HO3.out (by simp)).cell 0
      have p1 := (HB1.out.only HO3.out (by simp)).cell 1
      have p2 := (HB1.out.only HO3.out (by simp)).cell 2
      have p3 := (HB1.out.only HO3.out (by simp)).cell 3
      have p4 := (HB1.out.only HO3.out (by simp)).cell 4
      simp at p0 p1 p2 p3 p4
      have q0 := (HB2.out.only HO3.out (by simp)).cell 0
      have q1 := (HB2.out.only HO3.out (by simp)).cell 1
      have q2 := (HB2.out.only HO3.out (by simp)).cell 2
      have q3 := (HB2.out.only HO3.out (by simp)).cell 3
      have q4 := (HB2.out.only HO3.out (by simp)).cell 4
      simp at q0 q1 q2 q3 q4
      go_wp2_with fail
      refine (ord_ok a w3 _ _ b _ _ (HA.out.only0 HO3.out) (HB.out.only0 HO3.out)).mono ?_
      rintro e w4 ⟨rfl, ho⟩
      have HO4 := Lib.hid (HO3.out.trans ho)
      clear ho p0 p1 p2 p3 p4 q0 q1 q2 q3 q4
      go_wp2
      exact bodyPost_ret (results_tmp rfl _ _ _) rfl ⟨by rw [HD.out]; rfl, HO0.out.trans HO4.out⟩
set_option maxRecDepth 100000 in
set_option maxHeartbeats 3200000 in
theorem same2_ok {w : World} {F G : Nat → Prop} {a b : V} {cs ds : List Value} (ha : VIs w F a cs) (hb : VIs w G b ds) : Calls Try.prog 33 #[.agg cs.toArray, .agg ds.toArray] w fun e w' => e = .returned (.bool (a.same b)) ∧ Only [] w w' := by
  obtain ⟨k, i, r, t, s, n, cap, rfl⟩ := ha.five
  obtain ⟨k2, i2, r2, t2, s2, n2, cap2, rfl⟩ := hb.five
  obtain ⟨w0, hw0⟩ : ∃ x : World, x = (w.alloc (.cells #[iv k, iv i, fv r, .string t, .slice s n cap] 33)).alloc (.cells #[iv k2, iv i2, fv r2, .string t2, .slice s2 n2 cap2] 33) := ⟨_, rfl⟩
  have HW0 := Lib.hid hw0
  have HO0 := Lib.hid (show Only [] w w0 by rw [hw0]; exact ((Only.refl _ w).alloc _).alloc _)
  have HB1 := Lib.hid (show Blk w0 w.heap.size 33 #[iv k, iv i, fv r, .string t, .slice s n cap] by rw [hw0]; exact (Blk.new _ _ _).alloc _)
  have HB2 := Lib.hid (show Blk w0 (w.heap.size + 1) 33 #[iv k2, iv i2, fv r2, .string t2, .slice s2 n2 cap2] by rw [hw0]; have := Blk.new (w.alloc (.cells #[iv k, iv i, fv r, .string t, .slice s n cap] 33)) 33 #[iv k2, iv i2, fv r2, .string t2, .slice s2 n2 cap2]; simpa using this)
  clear hw0
  have HA := Lib.hid (ha.only0 HO0.out)
  have HB := Lib.hid (hb.only0 HO0.out)
  clear ha hb
  have HMA := Lib.hid (fun w' (ho : Only [] w0 w') => may2_ok (HA.out.only0 ho))
  have HMB := Lib.hid (fun w' (ho : Only [] w0 w') => may2_ok (HB.out.only0 ho))
  have HE := Lib.hid (show a.same b = match a.item, b.item with | some x, some y => x.cmp y == 0 | _, _ => false from rfl)
  have HOR := Lib.hid (fun x y (hx : a.item = some x) (hy : b.item = some y) => item_ord hx hy)
  cases hx : a.item with
  | none =>
    have hma : a.may = false := by unfold V.may; rw [hx]; rfl
    rw [hx] at HE
    rw [hma] at HMA
    clear hx hma
    go_enter Try.func33, Try.ntmps33
    go_wp2_with fail
    rw [← HW0.out]
    refine (HMA.out _ (Only.refl _ _)).mono ?_
    rintro e w1 ⟨rfl, ho⟩
    have HO1 := Lib.hid ho
    clear ho
    have p0 := (HB1.out.only HO1.out (by simp)).cell 0
    have p1 := (HB1.out.only HO1.out (by simp)).cell 1
    have p2 := (HB1.out.only HO1.out (by simp)).cell 2
    have p3 := (HB1.out.only HO1.out (by simp)).cell 3
    have p4 := (HB1.out.only HO1.out (by simp)).cell 4
    simp at p0 p1 p2 p3 p4
    have q0 := (HB2.out.only HO1.out (by simp)).cell 0
    have q1 := (HB2.out.only HO1.out (by simp)).cell 1
    have q2 := (HB2.out.only HO1.out (by simp)).cell 2
    have q3 := (HB2.out.only HO1.out (by simp)).cell 3
    have q4 := (HB2.out.only HO1.out (by simp)).cell 4
    simp at q0 q1 q2 q3 q4
    go_wp2
    exact bodyPost_ret (results_tmp rfl _ _ _) rfl ⟨by rw [HE.out]; rfl, HO0.out.trans HO1.out⟩
  | some x =>
    have hma : a.may = true := by unfold V.may; rw [hx]; rfl
    cases hy : b.item with
    | none =>
      have hmb : b.may = false := by unfold V.may; rw [hy]; rfl
      rw [hx, hy] at HE
      rw [hma] at HMA
      rw [hmb] at HMB
      clear hx hy hma hmb
      go_enter Try.func33, Try.ntmps33
      go_wp2_with fail
      rw [← HW0.out]
      refine (HMA.out _ (Only.refl _ _)).mono ?_
      rintro e w1 ⟨rfl, ho⟩
      have HO1 := Lib.hid ho
      clear ho
      have p0 := (HB1.out.only HO1.out (by simp)).cell 0
      have p1 := (HB1.out.only HO1.out (by simp)).cell 1
      have p2 := (HB1.out.only HO1.out (by simp)).cell 2
      have p3 := (HB1.out.only HO1.out (by simp)).cell 3
      have p4 := (HB1.out.only HO1.out (by simp)).cell 4
      simp at p0 p1 p2 p3 p4
      have q0 := (HB2.out.only HO1.out (by simp)).cell 0
      have q1 := (HB2.out.only HO1.out (by simp)).cell 1
      have q2 := (HB2.out.only HO1.out (by simp)).cell 2
      have q3 := (HB2.out.only HO1.out (by simp)).cell 3
      have q4 := (HB2.out.only HO1.out (by simp)).cell 4
      simp at q0 q1 q2 q3 q4
      go_wp2_with fail
      refine (HMB.out _ HO1.out).mono ?_
      clear p0 p1 p2 p3 p4 q0 q1 q2 q3 q4
      rintro e w2 ⟨rfl, ho⟩
      have HO2 := Lib.hid (HO1.out.trans ho)
      clear ho
      have p0 := (HB1.out.only HO2.out (by simp)).cell 0
      have p1 := (HB1.out.only HO2.out (by simp)).cell 1
      have p2 := (HB1.out.only HO2.out (by simp)).cell 2
      have p3 := (HB1.out.only HO2.out (by simp)).cell 3
      have p4 := (HB1.out.only HO2.out (by simp)).cell 4
      simp at p0 p1 p2 p3 p4
      have q0 := (HB2.out.only HO2.out (by simp)).cell 0
      have q1 := (HB2.out.only HO2.out (by simp)).cell 1
      have q2 := (HB2.out.only HO2.out (by simp)).cell 2
      have q3 := (HB2.out.only HO2.out (by simp)).cell 3
      have q4 := (HB2.out.only HO2.out (by simp)).cell 4
      simp at q0 q1 q2 q3 q4
      go_wp2
      exact bodyPost_ret (results_tmp rfl _ _ _) rfl ⟨by rw [HE.out]; rfl, HO0.out.trans HO2.out⟩
    | some y =>
      have hmb : b.may = true := by unfold V.may; rw [hy]; rfl
      have HD := Lib.hid (show a.same b = (a.ord b == 0) by rw [HOR.out x y hx hy, HE.out, hx, hy])
      rw [hma] at HMA
      rw [hmb] at HMB
      clear hx hy hma hmb HE
      go_enter Try.func33, Try.ntmps33
      go_wp2_with fail
      rw [← HW0.out]
      refine (HMA.out _ (Only.refl _ _)).mono ?_
      rintro e w1 ⟨rfl, ho⟩
      have HO1 := Lib.hid ho
      clear ho
      have p0 := (HB1.out.only HO1.out (by simp)).cell 0
      have p1 := (HB1.out.only HO1.out (by simp)).cell 1
      have p2 := (HB1.out.only HO1.out (by simp)).cell 2
      have p3 := (HB1.out.only HO1.out (by simp)).cell 3
      have p4 := (HB1.out.only HO1.out (by simp)).cell 4
      simp at p0 p1 p2 p3 p4
      have q0 := (HB2.out.only HO1.out (by simp)).cell 0
      have q1 := (HB2.out.only HO1.out (by simp)).cell 1
      have q2 := (HB2.out.only HO1.out (by simp)).cell 2
      have q3 := (HB2.out.only HO1.out (by simp)).cell 3
      have q4 := (HB2.out.only HO1.out (by simp)).cell 4
      simp at q0 q1 q2 q3 q4
      go_wp2_with fail
      refine (HMB.out _ HO1.out).mono ?_
      clear p0 p1 p2 p3 p4 q0 q1 q2 q3 q4
      rintro e w2 ⟨rfl, ho⟩
      have HO2 := Lib.hid (HO1.out.trans ho)
      clear ho
      have p0 := (HB1.out.only HO2.out (by simp)).cell 0
      have p1 := (HB1.out.only HO2.out (by simp)).cell 1
      have p2 := (HB1.out.only HO2.out (by simp)).cell 2
      have p3 := (HB1.out.only HO2.out (by simp)).cell 3
      have p4 := (HB1.out.only HO2.out (by simp)).cell 4
      simp at p0 p1 p2 p3 p4
      have q0 := (HB2.out.only HO2.out (by simp)).cell 0
      have q1 := (HB2.out.only HO2.out (by simp)).cell 1
      have q2 := (HB2.out.only HO2.out (by simp)).cell 2
      have q3 := (HB2.out.only HO2.out (by simp)).cell 3
      have q4 := (HB2.out.only HO2.out (by simp)).cell 4
      simp at q0 q1 q2 q3 q4
      go_wp2_with fail
      refine (ord_ok a w2 _ _ b _ _ (HA.out.only0 HO2.out) (HB.out.only0 HO2.out)).mono ?_
      rintro e w4 ⟨rfl, ho⟩
      have HO4 := Lib.hid (HO2.out.trans ho)
      clear ho p0 p1 p2 p3 p4 q0 q1 q2 q3 q4
      go_wp2
      exact bodyPost_ret (results_tmp rfl _ _ _) rfl ⟨by rw [HD.out]; rfl, HO0.out.trans HO4.out⟩
end Go.Proofs.Ytffdfegelgpniaa
