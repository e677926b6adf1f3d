/-
  ValueOrder: the walk.
-/
import Derived.Test.YtffdfegelgpniaaVx
set_option linter.unusedSimpArgs false
set_option linter.unusedVariables false
namespace Go.Proofs.Ytffdfegelgpniaa
open Go.RowKit Go.Fl

def Rng (c : Int) : Prop := -1 ≤ c ∧ c ≤ 1
theorem rng_cmpI (a b : Int) : Rng (cmpI a b) := by
  unfold Rng cmpI
  repeat' split
  all_goals omega
theorem rng_bytes : ∀ l m, Rng (Lib.compareBytes l m)
  | [], [] => by show Rng 0; unfold Rng; omega
  | [], _ :: _ => by show Rng (-1); unfold Rng; omega
  | _ :: _, [] => by show Rng 1; unfold Rng; omega
  | a :: l, b :: m => by
    rw [bytes_lex]
    split
    · exact rng_cmpI _ _
    · exact rng_bytes l m
mutual
theorem I.rng : ∀ (x y : I), Rng (x.cmp y) := fun x y => by
  by_cases hk : x.kind = y.kind
  · cases x with
    | list l =>
      cases y with
      | list m => exact cmps_rng l m
      | _ => exfalso; simp [I.kind] at hk; done
    | void => cases y <;> first | (exfalso; simp [I.kind] at hk; done) | exact rng_cmpI _ _
    | truth => cases y <;> first | (exfalso; simp [I.kind] at hk; done) | exact rng_cmpI _ _
    | whole => cases y <;> first | (exfalso; simp [I.kind] at hk; done) | exact rng_cmpI _ _
    | number => cases y <;> first | (exfalso; simp [I.kind] at hk; done) | exact rng_cmpI _ _
    | text => cases y <;> first | (exfalso; simp [I.kind] at hk; done) | exact rng_bytes _ _
  · rw [cmp_kind hk]
    exact rng_cmpI _ _
theorem cmps_rng : ∀ (l m : List I), Rng (cmps l m)
  | [], m => rng_cmpI _ _
  | a :: l, [] => by show Rng 1; unfold Rng; omega
  | a :: l, b :: m => by
    have h1 := I.rng a b
    have h2 := cmps_rng l m
    show Rng (if a.cmp b ≠ 0 then a.cmp b else cmps l m)
    split
    · exact h1
    · exact h2
end
theorem V.rng (a b : V) : Rng (a.cmp b) := by
  unfold V.cmp
  cases a.item <;> cases b.item
  · show Rng 0; unfold Rng; omega
  · show Rng 1; unfold Rng; omega
  · show Rng (-1); unfold Rng; omega
  · exact I.rng _ _
theorem wrap_neg {x : Int} (h : Rng x) : (-x != wrap64 (-x)) = false := by
  unfold Rng at h
  rw [bne_eq_false_iff_eq]
  unfold wrap64
  omega
theorem iv_eq {a b : Int} (h : a = b) : iv a = iv b := by rw [h]
set_option maxRecDepth 1000000 in
set_option maxHeartbeats 12800000 in
theorem order_ok (w : World) {F G H : Nat → Prop} {a b c : V} {ca cb cc : List Value} (ha : VIs w F a ca) (hb : VIs w G b cb) (hc : VIs w H c cc) : Calls Try.prog 6 #[.agg ca.toArray, .agg cb.toArray, .agg cc.toArray] w fun e w' => e = .returned (.bool true) ∧ Only [] w w' := by
  have HA := Lib.hid ha
  have HB := Lib.hid hb
  have HC := Lib.hid hc
  obtain ⟨k, i, r, t, s, n, cap, rfl⟩ := ha.five
  obtain ⟨k2, i2, r2, t2, s2, n2, cap2, rfl⟩ := hb.five
  obtain ⟨k3, i3, r3, t3, s3, n3, cap3, rfl⟩ := hc.five
  clear ha hb hc
  obtain ⟨x, hx⟩ : ∃ x, a.cmp b = x := ⟨_, rfl⟩
  obtain ⟨y, hy⟩ : ∃ y, b.cmp c = y := ⟨_, rfl⟩
  obtain ⟨z, hz⟩ : ∃ z, a.cmp c = z := ⟨_, rfl⟩
  have hT := V.tri a b c
  rw [hx, hy, hz] at hT
  have HT := Lib.hid hT
  have HN := Lib.hid (show b.cmp a = -x by rw [V.neg a b, hx])
  have HWN := wrap_neg (x := x) (hx ▸ V.rng a b)
  have HX := Lib.hid hx
  have HY := Lib.hid hy
  have HZ := Lib.hid hz
  have HS := Lib.hid (V.same_eq a b)
  clear hT hx hy hz
  have HO := Lib.hid (show Only [] w (((w.alloc (.cells #[iv k, iv i, fv r, .string t, .slice s n cap] 33)).alloc (.cells #[iv k2, iv i2, fv r2, .string t2, .slice s2 n2 cap2] 33)).alloc (.cells #[iv k3, iv i3, fv r3, .string t3, .slice s3 n3 cap3] 33)) from (((Only.refl _ w).alloc _).alloc _).alloc _)
  have HB1 := Lib.hid (show Blk (((w.alloc (.cells #[iv k, iv i, fv r, .string t, .slice s n cap] 33)).alloc (.cells #[iv k2, iv i2, fv r2, .string t2, .slice s2 n2 cap2] 33)).alloc (.cells #[iv k3, iv i3, fv r3, .string t3, .slice s3 n3 cap3] 33)) w.heap.size 33 #[iv k, iv i, fv r, .string t, .slice s n cap] from ((Blk.new _ _ _).alloc _).alloc _)
  have HB2 := Lib.hid (show Blk (((w.alloc (.cells #[iv k, iv i, fv r, .string t, .slice s n cap] 33)).alloc (.cells #[iv k2, iv i2, fv r2, .string t2, .slice s2 n2 cap2] 33)).alloc (.cells #[iv k3, iv i3, fv r3, .string t3, .slice s3 n3 cap3] 33)) (w.heap.size + 1) 33 #[iv k2, iv i2, fv r2, .string t2, .slice s2 n2 cap2] by have := (Blk.new (w.alloc (.cells #[iv k, iv i, fv r, .string t, .slice s n cap] 33)) 33 #[iv k2, iv i2, fv r2, .string t2, .slice s2 n2 cap2]).alloc (.cells #[iv k3, iv i3, fv r3, .string t3, .slice s3 n3 cap3] 33); simpa using this)
  have HB3 := Lib.hid (show Blk (((w.alloc (.cells #[iv k, iv i, fv r, .string t, .slice s n cap] 33)).alloc (.cells #[iv k2, iv i2, fv r2, .string t2, .slice s2 n2 cap2] 33)).alloc (.cells #[iv k3, iv i3, fv r3, .string t3, .slice s3 n3 cap3] 33)) (w.heap.size + 1 + 1) 33 #[iv k3, iv i3, fv r3, .string t3, .slice s3 n3 cap3] by have := Blk.new ((w.alloc (.cells #[iv k, iv i, fv r, .string t, .slice s n cap] 33)).alloc (.cells #[iv k2, iv i2, fv r2, .string t2, .slice s2 n2 cap2] 33)) 33 #[iv k3, iv i3, fv r3, .string t3, .slice s3 n3 cap3]; simpa using this)
  go_enter Try.func6, Try.ntmps6
  have HQ := Lib.hid (begun_ok (((w.alloc (.cells #[iv k, iv i, fv r, .string t, .slice s n cap] 33)).alloc (.cells #[iv k2, iv i2, fv r2, .string t2, .slice s2 n2 cap2] 33)).alloc (.cells #[iv k3, iv i3, fv r3, .string t3, .slice s3 n3 cap3] 33)))
  go_wp2_with fail
  refine HQ.out.mono ?_
  clear HQ
  generalize (((w.alloc (.cells #[iv k, iv i, fv r, .string t, .slice s n cap] 33)).alloc (.cells #[iv k2, iv i2, fv r2, .string t2, .slice s2 n2 cap2] 33)).alloc (.cells #[iv k3, iv i3, fv r3, .string t3, .slice s3 n3 cap3] 33)) = w0 at *
  rintro e w1 ⟨rfl, ho⟩
  have HO1 := Lib.hid (HO.out.trans ho)
  have HB11 := Lib.hid (HB1.out.only ho (by simp))
  have HB21 := Lib.hid (HB2.out.only ho (by simp))
  have HB31 := Lib.hid (HB3.out.only ho (by simp))
  have HA1 := Lib.hid (HA.out.only0 HO1.out)
  have HV1 := Lib.hid (HB.out.only0 HO1.out)
  have HC1 := Lib.hid (HC.out.only0 HO1.out)
  clear ho HO HB1 HB2 HB3 HA HB HC
  have HQ := Lib.hid (Light_ok HA1.out)
  have p0 := HB11.out.cell 0
  have p1 := HB11.out.cell 1
  have p2 := HB11.out.cell 2
  have p3 := HB11.out.cell 3
  have p4 := HB11.out.cell 4
  simp at p0 p1 p2 p3 p4
  cases hla : a.isLight
  · rw [hla] at HQ
    go_wp2_with fail
    refine HQ.out.mono ?_
    clear HQ p0 p1 p2 p3 p4
    rintro e w2 ⟨rfl, ho⟩
    have HO2 := Lib.hid (HO1.out.trans ho)
    clear ho
    go_wp2
    exact bodyPost_ret (results_tmp rfl _ _ _) rfl ⟨rfl, HO2.out⟩
  rw [hla] at HQ
  clear hla
  go_wp2_with fail
  refine HQ.out.mono ?_
  clear HQ p0 p1 p2 p3 p4
  rintro e w2 ⟨rfl, ho⟩
  have HO2 := Lib.hid (HO1.out.trans ho)
  have HB12 := Lib.hid (HB11.out.only ho (by simp))
  have HB22 := Lib.hid (HB21.out.only ho (by simp))
  have HB32 := Lib.hid (HB31.out.only ho (by simp))
  have HA2 := Lib.hid (HA1.out.only0 ho)
  have HV2 := Lib.hid (HV1.out.only0 ho)
  have HC2 := Lib.hid (HC1.out.only0 ho)
  clear ho HO1 HB11 HB21 HB31 HA1 HV1 HC1
  have HQ := Lib.hid (Light_ok HV2.out)
  have p0 := HB22.out.cell 0
  have p1 := HB22.out.cell 1
  have p2 := HB22.out.cell 2
  have p3 := HB22.out.cell 3
  have p4 := HB22.out.cell 4
  simp at p0 p1 p2 p3 p4
  cases hla : b.isLight
  · rw [hla] at HQ
    go_wp2_with fail
    refine HQ.out.mono ?_
    clear HQ p0 p1 p2 p3 p4
    rintro e w3 ⟨rfl, ho⟩
    have HO3 := Lib.hid (HO2.out.trans ho)
    clear ho
    go_wp2
    exact bodyPost_ret (results_tmp rfl _ _ _) rfl ⟨rfl, HO3.out⟩
  rw [hla] at HQ
  clear hla
  go_wp2_with fail
  refine HQ.out.mono ?_
  clear HQ p0 p1 p2 p3 p4
  rintro e w3 ⟨rfl, ho⟩
  have HO3 := Lib.hid (HO2.out.trans ho)
  have HB13 := Lib.hid (HB12.out.only ho (by simp))
  have HB23 := Lib.hid (HB22.out.only ho (by simp))
  have HB33 := Lib.hid (HB32.out.only ho (by simp))
  have HA3 := Lib.hid (HA2.out.only0 ho)
  have HV3 := Lib.hid (HV2.out.only0 ho)
  have HC3 := Lib.hid (HC2.out.only0 ho)
  clear ho HO2 HB12 HB22 HB32 HA2 HV2 HC2
  have HQ := Lib.hid (Light_ok HC3.out)
  have p0 := HB33.out.cell 0
  have p1 := HB33.out.cell 1
  have p2 := HB33.out.cell 2
  have p3 := HB33.out.cell 3
  have p4 := HB33.out.cell 4
  simp at p0 p1 p2 p3 p4
  cases hla : c.isLight
  · rw [hla] at HQ
    go_wp2_with fail
    refine HQ.out.mono ?_
    clear HQ p0 p1 p2 p3 p4
    rintro e w4 ⟨rfl, ho⟩
    have HO4 := Lib.hid (HO3.out.trans ho)
    clear ho
    go_wp2
    exact bodyPost_ret (results_tmp rfl _ _ _) rfl ⟨rfl, HO4.out⟩
  rw [hla] at HQ
  clear hla
  go_wp2_with fail
  refine HQ.out.mono ?_
  clear HQ p0 p1 p2 p3 p4
  rintro e w4 ⟨rfl, ho⟩
  have HO4 := Lib.hid (HO3.out.trans ho)
  have HB14 := Lib.hid (HB13.out.only ho (by simp))
  have HB24 := Lib.hid (HB23.out.only ho (by simp))
  have HB34 := Lib.hid (HB33.out.only ho (by simp))
  have HA4 := Lib.hid (HA3.out.only0 ho)
  have HV4 := Lib.hid (HV3.out.only0 ho)
  have HC4 := Lib.hid (HC3.out.only0 ho)
  clear ho HO3 HB13 HB23 HB33 HA3 HV3 HC3
  go_wp2
  refine Lex.wp_region_each (by kernel_rfl) [[], [], [0, 1], [], [], [3, 4], [], [], [6, 7], [2], [5], [8]] (by kernel_rfl) (by rfl) (fun a b => Only [] a b) (Only.refl _) (fun _ _ _ => Only.trans)
    (fun q v _ => match q with
      | 0 => v = .agg #[iv k, iv i, fv r, .string t, .slice s n cap]
      | 1 => v = .agg #[iv k2, iv i2, fv r2, .string t2, .slice s2 n2 cap2]
      | 2 => v = iv x
      | 3 => v = .agg #[iv k2, iv i2, fv r2, .string t2, .slice s2 n2 cap2]
      | 4 => v = .agg #[iv k3, iv i3, fv r3, .string t3, .slice s3 n3 cap3]
      | 5 => v = iv y
      | 6 => v = .agg #[iv k, iv i, fv r, .string t, .slice s n cap]
      | 7 => v = .agg #[iv k3, iv i3, fv r3, .string t3, .slice s3 n3 cap3]
      | 8 => v = iv z
      | 9 => v = iv x
      | 10 => v = iv y
      | _ => v = iv z) (fun _ _ _ _ h _ => h) ?_ ?_
  · intro j o ho w5 hR
    have HR := Lib.hid hR
    clear hR
    rcases j with _ | _ | _ | _ | _ | _ | _ | _ | _ | _ | _ | _ | j
    · injection ho with ho
      subst ho
      have hb := HB14.out.drew.only HR.out (by simp)
      have p0 := hb.cell 0
      have p1 := hb.cell 1
      have p2 := hb.cell 2
      have p3 := hb.cell 3
      have p4 := hb.cell 4
      simp at p0 p1 p2 p3 p4
      clear hb
      show wpList _ _ _ _ _ _
      go_wp2
      exact ⟨rfl, Only.refl _ _, rfl⟩
    · injection ho with ho
      subst ho
      have hb := HB24.out.drew.only HR.out (by simp)
      have p0 := hb.cell 0
      have p1 := hb.cell 1
      have p2 := hb.cell 2
      have p3 := hb.cell 3
      have p4 := hb.cell 4
      simp at p0 p1 p2 p3 p4
      clear hb
      show wpList _ _ _ _ _ _
      go_wp2
      exact ⟨rfl, Only.refl _ _, rfl⟩
    · injection ho with ho
      subst ho
      intro v hv
      obtain rfl : v = .agg #[iv k, iv i, fv r, .string t, .slice s n cap] := hv
      intro v hv
      obtain rfl : v = .agg #[iv k2, iv i2, fv r2, .string t2, .slice s2 n2 cap2] := hv
      simp only [Lex.dstOf, List.getElem?_cons_zero, List.getElem?_cons_succ, Option.bind_some]
      have HQ := Lib.hid (compare_ok (HA4.out.only0 ((Only.refl _ _).drew.trans HR.out)) (HV4.out.only0 ((Only.refl _ _).drew.trans HR.out)))
      rw [HX.out] at HQ
      show wpList _ _ _ _ _ _
      go_wp2_with fail
      refine HQ.out.mono ?_
      clear HQ
      rintro e w6 ⟨rfl, ho⟩
      go_wp2
      exact ⟨rfl, ho, rfl⟩
    · injection ho with ho
      subst ho
      have hb := HB24.out.drew.only HR.out (by simp)
      have p0 := hb.cell 0
      have p1 := hb.cell 1
      have p2 := hb.cell 2
      have p3 := hb.cell 3
      have p4 := hb.cell 4
      simp at p0 p1 p2 p3 p4
      clear hb
      show wpList _ _ _ _ _ _
      go_wp2
      exact ⟨rfl, Only.refl _ _, rfl⟩
    · injection ho with ho
      subst ho
      have hb := HB34.out.drew.only HR.out (by simp)
      have p0 := hb.cell 0
      have p1 := hb.cell 1
      have p2 := hb.cell 2
      have p3 := hb.cell 3
      have p4 := hb.cell 4
      simp at p0 p1 p2 p3 p4
      clear hb
      show wpList _ _ _ _ _ _
      go_wp2
      exact ⟨rfl, Only.refl _ _, rfl⟩
    · injection ho with ho
      subst ho
      intro v hv
      obtain rfl : v = .agg #[iv k2, iv i2, fv r2, .string t2, .slice s2 n2 cap2] := hv
      intro v hv
      obtain rfl : v = .agg #[iv k3, iv i3, fv r3, .string t3, .slice s3 n3 cap3] := hv
      simp only [Lex.dstOf, List.getElem?_cons_zero, List.getElem?_cons_succ, Option.bind_some]
      have HQ := Lib.hid (compare_ok (HV4.out.only0 ((Only.refl _ _).drew.trans HR.out)) (HC4.out.only0 ((Only.refl _ _).drew.trans HR.out)))
      rw [HY.out] at HQ
      show wpList _ _ _ _ _ _
      go_wp2_with fail
      refine HQ.out.mono ?_
      clear HQ
      rintro e w6 ⟨rfl, ho⟩
      go_wp2
      exact ⟨rfl, ho, rfl⟩
    · injection ho with ho
      subst ho
      have hb := HB14.out.drew.only HR.out (by simp)
      have p0 := hb.cell 0
      have p1 := hb.cell 1
      have p2 := hb.cell 2
      have p3 := hb.cell 3
      have p4 := hb.cell 4
      simp at p0 p1 p2 p3 p4
      clear hb
      show wpList _ _ _ _ _ _
      go_wp2
      exact ⟨rfl, Only.refl _ _, rfl⟩
    · injection ho with ho
      subst ho
      have hb := HB34.out.drew.only HR.out (by simp)
      have p0 := hb.cell 0
      have p1 := hb.cell 1
      have p2 := hb.cell 2
      have p3 := hb.cell 3
      have p4 := hb.cell 4
      simp at p0 p1 p2 p3 p4
      clear hb
      show wpList _ _ _ _ _ _
      go_wp2
      exact ⟨rfl, Only.refl _ _, rfl⟩
    · injection ho with ho
      subst ho
      intro v hv
      obtain rfl : v = .agg #[iv k, iv i, fv r, .string t, .slice s n cap] := hv
      intro v hv
      obtain rfl : v = .agg #[iv k3, iv i3, fv r3, .string t3, .slice s3 n3 cap3] := hv
      simp only [Lex.dstOf, List.getElem?_cons_zero, List.getElem?_cons_succ, Option.bind_some]
      have HQ := Lib.hid (compare_ok (HA4.out.only0 ((Only.refl _ _).drew.trans HR.out)) (HC4.out.only0 ((Only.refl _ _).drew.trans HR.out)))
      rw [HZ.out] at HQ
      show wpList _ _ _ _ _ _
      go_wp2_with fail
      refine HQ.out.mono ?_
      clear HQ
      rintro e w6 ⟨rfl, ho⟩
      go_wp2
      exact ⟨rfl, ho, rfl⟩
    · injection ho with ho
      subst ho
      intro v hv
      obtain rfl : v = _ := hv
      simp only [Lex.dstOf, List.getElem?_cons_zero, List.getElem?_cons_succ, Option.bind_some]
      show wpList _ _ _ _ _ _
      go_wp2
      exact ⟨rfl, Only.refl _ _, rfl⟩
    · injection ho with ho
      subst ho
      intro v hv
      obtain rfl : v = _ := hv
      simp only [Lex.dstOf, List.getElem?_cons_zero, List.getElem?_cons_succ, Option.bind_some]
      show wpList _ _ _ _ _ _
      go_wp2
      exact ⟨rfl, Only.refl _ _, rfl⟩
    · injection ho with ho
      subst ho
      intro v hv
      obtain rfl : v = _ := hv
      simp only [Lex.dstOf, List.getElem?_cons_zero, List.getElem?_cons_succ, Option.bind_some]
      show wpList _ _ _ _ _ _
      go_wp2
      exact ⟨rfl, Only.refl _ _, rfl⟩
    · cases ho
  intro w5 hR
  have ho := (Only.refl [] w4).drew.trans hR
  have HO5 := Lib.hid (HO4.out.trans ho)
  have HB15 := Lib.hid (HB14.out.only ho (by simp))
  have HB25 := Lib.hid (HB24.out.only ho (by simp))
  have HA5 := Lib.hid (HA4.out.only0 ho)
  have HV5 := Lib.hid (HV4.out.only0 ho)
  clear hR ho HO4 HB14 HB24 HB34 HA4 HV4 HC4
  show ∀ v0, _ → ∀ v1, _ → ∀ v2, _ → ∀ v3, _ → ∀ v4, _ → ∀ v5, _ → ∀ v6, _ → ∀ v7, _ → ∀ v8, _ → ∀ v9, _ → ∀ v10, _ → ∀ v11, _ → Exit.then _ _ _ _ _
  intro v0 h0 v1 h1 v2 h2 v3 h3 v4 h4 v5 h5 v6 h6 v7 h7 v8 h8 v9 h9 v10 h10 v11 h11
  simp only [Lex.dstOf, List.getElem?_cons_zero, List.getElem?_cons_succ, Option.bind_some]
  obtain rfl : v0 = _ := h0
  obtain rfl : v1 = _ := h1
  obtain rfl : v2 = _ := h2
  obtain rfl : v3 = _ := h3
  obtain rfl : v4 = _ := h4
  obtain rfl : v5 = _ := h5
  obtain rfl : v6 = _ := h6
  obtain rfl : v7 = _ := h7
  obtain rfl : v8 = _ := h8
  obtain rfl : v9 = _ := h9
  obtain rfl : v10 = _ := h10
  obtain rfl : v11 = _ := h11
  have p0 := HB25.out.cell 0
  have p1 := HB25.out.cell 1
  have p2 := HB25.out.cell 2
  have p3 := HB25.out.cell 3
  have p4 := HB25.out.cell 4
  simp at p0 p1 p2 p3 p4
  have q0 := HB15.out.cell 0
  have q1 := HB15.out.cell 1
  have q2 := HB15.out.cell 2
  have q3 := HB15.out.cell 3
  have q4 := HB15.out.cell 4
  simp at q0 q1 q2 q3 q4
  have HQ := Lib.hid (compare_ok HV5.out HA5.out)
  rw [HN.out] at HQ
  go_wp2_with fail
  refine HQ.out.mono ?_
  clear HQ p0 p1 p2 p3 p4 q0 q1 q2 q3 q4
  rintro e w6 ⟨rfl, ho⟩
  have HO6 := Lib.hid (HO5.out.trans ho)
  have HB16 := Lib.hid (HB15.out.only ho (by simp))
  have HB26 := Lib.hid (HB25.out.only ho (by simp))
  have HA6 := Lib.hid (HA5.out.only0 ho)
  have HV6 := Lib.hid (HV5.out.only0 ho)
  clear ho HO5 HB15 HB25 HA5 HV5
  have q0 := HB16.out.cell 0
  have q1 := HB16.out.cell 1
  have q2 := HB16.out.cell 2
  have q3 := HB16.out.cell 3
  have q4 := HB16.out.cell 4
  simp at q0 q1 q2 q3 q4
  have HQ := Lib.hid (compare_ok HA6.out HA6.out)
  rw [V.self] at HQ
  go_wp2_with fail
  refine HQ.out.mono ?_
  clear HQ q0 q1 q2 q3 q4
  rintro e w7 ⟨rfl, ho⟩
  have HO7 := Lib.hid (HO6.out.trans ho)
  have HB17 := Lib.hid (HB16.out.only ho (by simp))
  have HB27 := Lib.hid (HB26.out.only ho (by simp))
  have HA7 := Lib.hid (HA6.out.only0 ho)
  have HV7 := Lib.hid (HV6.out.only0 ho)
  clear ho HO6 HB16 HB26 HA6 HV6
  have HE0 := HT.out
  unfold Tri at HE0
  go_wp2
  all_goals first | (exfalso; simp at *; omega) | skip
  all_goals clear HE0
  all_goals (
    cases hma : a.may
    · have HMA := Lib.hid hma
      cases hmb : b.may
      · have HMB := Lib.hid hmb
        clear hma hmb
        have HE := Lib.hid (show a.same b = false by rw [HS.out, HMA.out, HMB.out]; rfl)
        refine Lex.wp_region_each (by kernel_rfl) [[], [], [0, 1], [], [3], [4], [5], [5, 6], [5, 7], [8], [9], [9, 10], [9, 11], [2, 12], [13]] (by kernel_rfl) (by rfl) (fun a b => Only [] a b) (Only.refl _) (fun _ _ _ => Only.trans)
          (fun q v _ => match q with
            | 0 => v = .agg #[iv k, iv i, fv r, .string t, .slice s n cap]
            | 1 => v = .agg #[iv k2, iv i2, fv r2, .string t2, .slice s2 n2 cap2]
            | 2 => v = .bool false
            | 3 => v = .agg #[iv k, iv i, fv r, .string t, .slice s n cap]
            | 4 => v = .bool false
            | 5 => v = .bool false
            | 6 => false = true → v = .agg #[iv k2, iv i2, fv r2, .string t2, .slice s2 n2 cap2]
            | 7 => false = true → v = .bool false
            | 8 => v = .bool false
            | 9 => v = .bool false
            | 10 => false = true → v = iv (a.cmp b)
            | 11 => false = true → v = .bool (a.cmp b == 0)
            | 12 => v = .bool false
            | 13 => v = .bool true
            | _ => v = .bool true) (fun _ _ _ _ h _ => h) ?_ ?_
        · intro j o ho w8 hR
          have HR := Lib.hid hR
          clear hR
          rcases j with _ | _ | _ | _ | _ | _ | _ | _ | _ | _ | _ | _ | _ | _ | _ | j
          · injection ho with ho
            subst ho
            have hb := HB17.out.drew.only HR.out (by simp)
            have p0 := hb.cell 0
            have p1 := hb.cell 1
            have p2 := hb.cell 2
            have p3 := hb.cell 3
            have p4 := hb.cell 4
            simp at p0 p1 p2 p3 p4
            clear hb
            show wpList _ _ _ _ _ _
            go_wp2
            exact ⟨rfl, Only.refl _ _, rfl⟩
          · injection ho with ho
            subst ho
            have hb := HB27.out.drew.only HR.out (by simp)
            have p0 := hb.cell 0
            have p1 := hb.cell 1
            have p2 := hb.cell 2
            have p3 := hb.cell 3
            have p4 := hb.cell 4
            simp at p0 p1 p2 p3 p4
            clear hb
            show wpList _ _ _ _ _ _
            go_wp2
            exact ⟨rfl, Only.refl _ _, rfl⟩
          · injection ho with ho
            subst ho
            intro v hv
            try (obtain rfl : v = _ := hv)
            try (obtain rfl : v = _ := hv rfl)
            intro v hv
            try (obtain rfl : v = _ := hv)
            try (obtain rfl : v = _ := hv rfl)
            simp only [Lex.dstOf, List.getElem?_cons_zero, List.getElem?_cons_succ, Option.bind_some]
            have HQ := Lib.hid (same_ok (HA7.out.only0 ((Only.refl _ _).drew.trans HR.out)) (HV7.out.only0 ((Only.refl _ _).drew.trans HR.out)))
            rw [HE.out] at HQ
            show wpList _ _ _ _ _ _
            go_wp2_with fail
            refine HQ.out.mono ?_
            clear HQ
            rintro e w9 ⟨rfl, ho⟩
            go_wp2
            exact ⟨rfl, ho, rfl⟩
          · injection ho with ho
            subst ho
            have hb := HB17.out.drew.only HR.out (by simp)
            have p0 := hb.cell 0
            have p1 := hb.cell 1
            have p2 := hb.cell 2
            have p3 := hb.cell 3
            have p4 := hb.cell 4
            simp at p0 p1 p2 p3 p4
            clear hb
            show wpList _ _ _ _ _ _
            go_wp2
            exact ⟨rfl, Only.refl _ _, rfl⟩
          · injection ho with ho
            subst ho
            intro v hv
            try (obtain rfl : v = _ := hv)
            try (obtain rfl : v = _ := hv rfl)
            simp only [Lex.dstOf, List.getElem?_cons_zero, List.getElem?_cons_succ, Option.bind_some]
            have HQ := Lib.hid (may_ok (HA7.out.only0 ((Only.refl _ _).drew.trans HR.out)))
            rw [HMA.out] at HQ
            show wpList _ _ _ _ _ _
            go_wp2_with fail
            refine HQ.out.mono ?_
            clear HQ
            rintro e w9 ⟨rfl, ho⟩
            go_wp2
            exact ⟨rfl, ho, rfl⟩
          · injection ho with ho
            subst ho
            intro v hv
            try (obtain rfl : v = _ := hv)
            try (obtain rfl : v = _ := hv rfl)
            simp only [Lex.dstOf, List.getElem?_cons_zero, List.getElem?_cons_succ, Option.bind_some]
            show wpList _ _ _ _ _ _
            go_wp2
            exact ⟨rfl, Only.refl _ _, rfl⟩
          · injection ho with ho
            subst ho
            intro v hv
            try (obtain rfl : v = _ := hv)
            try (obtain rfl : v = _ := hv rfl)
            simp only [Lex.dstOf, List.getElem?_cons_zero, List.getElem?_cons_succ, Option.bind_some]
            show wpList _ _ _ _ _ _
            go_wp2
            first | exact ⟨Only.refl _ _, rfl⟩ | exact ⟨fun h => absurd h (by decide), Only.refl _ _, rfl⟩
          · injection ho with ho
            subst ho
            intro v hv
            try (obtain rfl : v = _ := hv)
            try (obtain rfl : v = _ := hv rfl)
            intro v hv
            try (obtain rfl : v = _ := hv)
            try (obtain rfl : v = _ := hv rfl)
            simp only [Lex.dstOf, List.getElem?_cons_zero, List.getElem?_cons_succ, Option.bind_some]
            show wpList _ _ _ _ _ _
            go_wp2
            first | exact ⟨Only.refl _ _, rfl⟩ | exact ⟨fun h => absurd h (by decide), Only.refl _ _, rfl⟩
          · injection ho with ho
            subst ho
            intro v hv
            try (obtain rfl : v = _ := hv)
            try (obtain rfl : v = _ := hv rfl)
            intro v hv
            try (obtain rfl : v = _ := hv)
            try (obtain rfl : v = _ := hv rfl)
            simp only [Lex.dstOf, List.getElem?_cons_zero, List.getElem?_cons_succ, Option.bind_some]
            show wpList _ _ _ _ _ _
            go_wp2
            exact ⟨rfl, Only.refl _ _, rfl⟩
          · injection ho with ho
            subst ho
            intro v hv
            try (obtain rfl : v = _ := hv)
            try (obtain rfl : v = _ := hv rfl)
            simp only [Lex.dstOf, List.getElem?_cons_zero, List.getElem?_cons_succ, Option.bind_some]
            show wpList _ _ _ _ _ _
            go_wp2
            exact ⟨rfl, Only.refl _ _, rfl⟩
          · injection ho with ho
            subst ho
            intro v hv
            try (obtain rfl : v = _ := hv)
            try (obtain rfl : v = _ := hv rfl)
            simp only [Lex.dstOf, List.getElem?_cons_zero, List.getElem?_cons_succ, Option.bind_some]
            show wpList _ _ _ _ _ _
            go_wp2
            first | exact ⟨Only.refl _ _, rfl⟩ | exact ⟨fun h => absurd h (by decide), Only.refl _ _, rfl⟩ | exact ⟨fun _ => iv_eq (by have := HX.out; omega), Only.refl _ _, rfl⟩ | exact ⟨iv_eq (by have := HX.out; omega), Only.refl _ _, rfl⟩
          · injection ho with ho
            subst ho
            intro v hv
            try (obtain rfl : v = _ := hv)
            try (obtain rfl : v = _ := hv rfl)
            intro v hv
            try (obtain rfl : v = _ := hv)
            try (obtain rfl : v = _ := hv rfl)
            simp only [Lex.dstOf, List.getElem?_cons_zero, List.getElem?_cons_succ, Option.bind_some]
            show wpList _ _ _ _ _ _
            go_wp2
            first | exact ⟨Only.refl _ _, rfl⟩ | exact ⟨fun h => absurd h (by decide), Only.refl _ _, rfl⟩ | exact ⟨fun _ => rfl, Only.refl _ _, rfl⟩ | exact ⟨rfl, Only.refl _ _, rfl⟩
          · injection ho with ho
            subst ho
            intro v hv
            try (obtain rfl : v = _ := hv)
            try (obtain rfl : v = _ := hv rfl)
            intro v hv
            try (obtain rfl : v = _ := hv)
            try (obtain rfl : v = _ := hv rfl)
            simp only [Lex.dstOf, List.getElem?_cons_zero, List.getElem?_cons_succ, Option.bind_some]
            show wpList _ _ _ _ _ _
            go_wp2
            exact ⟨rfl, Only.refl _ _, rfl⟩
          · injection ho with ho
            subst ho
            intro v hv
            try (obtain rfl : v = _ := hv)
            try (obtain rfl : v = _ := hv rfl)
            intro v hv
            try (obtain rfl : v = _ := hv)
            try (obtain rfl : v = _ := hv rfl)
            simp only [Lex.dstOf, List.getElem?_cons_zero, List.getElem?_cons_succ, Option.bind_some]
            show wpList _ _ _ _ _ _
            go_wp2
            exact ⟨by first | rfl | simp, Only.refl _ _, rfl⟩
          · injection ho with ho
            subst ho
            intro v hv
            try (obtain rfl : v = _ := hv)
            try (obtain rfl : v = _ := hv rfl)
            simp only [Lex.dstOf, List.getElem?_cons_zero, List.getElem?_cons_succ, Option.bind_some]
            show wpList _ _ _ _ _ _
            go_wp2
            exact ⟨rfl, Only.refl _ _, rfl⟩
          · cases ho
        intro w8 hR
        have HO8 := Lib.hid (HO7.out.trans ((Only.refl [] w7).drew.trans hR))
        clear hR
        show ∀ v0, _ → ∀ v1, _ → ∀ v2, _ → ∀ v3, _ → ∀ v4, _ → ∀ v5, _ → ∀ v6, _ → ∀ v7, _ → ∀ v8, _ → ∀ v9, _ → ∀ v10, _ → ∀ v11, _ → ∀ v12, _ → ∀ v13, _ → ∀ v14, _ → Exit.then _ _ _ _ _
        intro v0 _ v1 _ v2 _ v3 _ v4 _ v5 _ v6 _ v7 _ v8 _ v9 _ v10 _ v11 _ v12 _ v13 _ v14 h14
        simp only [Lex.dstOf, List.getElem?_cons_zero, List.getElem?_cons_succ, Option.bind_some]
        obtain rfl : v14 = _ := h14
        go_wp2
        exact bodyPost_ret (results_tmp rfl _ _ _) rfl ⟨rfl, HO8.out⟩
      · have HMB := Lib.hid hmb
        clear hma hmb
        have HE := Lib.hid (show a.same b = false by rw [HS.out, HMA.out, HMB.out]; rfl)
        refine Lex.wp_region_each (by kernel_rfl) [[], [], [0, 1], [], [3], [4], [5], [5, 6], [5, 7], [8], [9], [9, 10], [9, 11], [2, 12], [13]] (by kernel_rfl) (by rfl) (fun a b => Only [] a b) (Only.refl _) (fun _ _ _ => Only.trans)
          (fun q v _ => match q with
            | 0 => v = .agg #[iv k, iv i, fv r, .string t, .slice s n cap]
            | 1 => v = .agg #[iv k2, iv i2, fv r2, .string t2, .slice s2 n2 cap2]
            | 2 => v = .bool false
            | 3 => v = .agg #[iv k, iv i, fv r, .string t, .slice s n cap]
            | 4 => v = .bool false
            | 5 => v = .bool false
            | 6 => false = true → v = .agg #[iv k2, iv i2, fv r2, .string t2, .slice s2 n2 cap2]
            | 7 => false = true → v = .bool true
            | 8 => v = .bool false
            | 9 => v = .bool false
            | 10 => false = true → v = iv (a.cmp b)
            | 11 => false = true → v = .bool (a.cmp b == 0)
            | 12 => v = .bool false
            | 13 => v = .bool true
            | _ => v = .bool true) (fun _ _ _ _ h _ => h) ?_ ?_
        · intro j o ho w8 hR
          have HR := Lib.hid hR
          clear hR
          rcases j with _ | _ | _ | _ | _ | _ | _ | _ | _ | _ | _ | _ | _ | _ | _ | j
          · injection ho with ho
            subst ho
            have hb := HB17.out.drew.only HR.out (by simp)
            have p0 := hb.cell 0
            have p1 := hb.cell 1
            have p2 := hb.cell 2
            have p3 := hb.cell 3
            have p4 := hb.cell 4
            simp at p0 p1 p2 p3 p4
            clear hb
            show wpList _ _ _ _ _ _
            go_wp2
            exact ⟨rfl, Only.refl _ _, rfl⟩
          · injection ho with ho
            subst ho
            have hb := HB27.out.drew.only HR.out (by simp)
            have p0 := hb.cell 0
            have p1 := hb.cell 1
            have p2 := hb.cell 2
            have p3 := hb.cell 3
            have p4 := hb.cell 4
            simp at p0 p1 p2 p3 p4
            clear hb
            show wpList _ _ _ _ _ _
            go_wp2
            exact ⟨rfl, Only.refl _ _, rfl⟩
          · injection ho with ho
            subst ho
            intro v hv
            try (obtain rfl : v = _ := hv)
            try (obtain rfl : v = _ := hv rfl)
            intro v hv
            try (obtain rfl : v = _ := hv)
            try (obtain rfl : v = _ := hv rfl)
            simp only [Lex.dstOf, List.getElem?_cons_zero, List.getElem?_cons_succ, Option.bind_some]
            have HQ := Lib.hid (same_ok (HA7.out.only0 ((Only.refl _ _).drew.trans HR.out)) (HV7.out.only0 ((Only.refl _ _).drew.trans HR.out)))
            rw [HE.out] at HQ
            show wpList _ _ _ _ _ _
            go_wp2_with fail
            refine HQ.out.mono ?_
            clear HQ
            rintro e w9 ⟨rfl, ho⟩
            go_wp2
            exact ⟨rfl, ho, rfl⟩
          · injection ho with ho
            subst ho
            have hb := HB17.out.drew.only HR.out (by simp)
            have p0 := hb.cell 0
            have p1 := hb.cell 1
            have p2 := hb.cell 2
            have p3 := hb.cell 3
            have p4 := hb.cell 4
            simp at p0 p1 p2 p3 p4
            clear hb
            show wpList _ _ _ _ _ _
            go_wp2
            exact ⟨rfl, Only.refl _ _, rfl⟩
          · injection ho with ho
            subst ho
            intro v hv
            try (obtain rfl : v = _ := hv)
            try (obtain rfl : v = _ := hv rfl)
            simp only [Lex.dstOf, List.getElem?_cons_zero, List.getElem?_cons_succ, Option.bind_some]
            have HQ := Lib.hid (may_ok (HA7.out.only0 ((Only.refl _ _).drew.trans HR.out)))
            rw [HMA.out] at HQ
            show wpList _ _ _ _ _ _
            go_wp2_with fail
            refine HQ.out.mono ?_
            clear HQ
            rintro e w9 ⟨rfl, ho⟩
            go_wp2
            exact ⟨rfl, ho, rfl⟩
          · injection ho with ho
            subst ho
            intro v hv
            try (obtain rfl : v = _ := hv)
            try (obtain rfl : v = _ := hv rfl)
            simp only [Lex.dstOf, List.getElem?_cons_zero, List.getElem?_cons_succ, Option.bind_some]
            show wpList _ _ _ _ _ _
            go_wp2
            exact ⟨rfl, Only.refl _ _, rfl⟩
          · injection ho with ho
            subst ho
            intro v hv
            try (obtain rfl : v = _ := hv)
            try (obtain rfl : v = _ := hv rfl)
            simp only [Lex.dstOf, List.getElem?_cons_zero, List.getElem?_cons_succ, Option.bind_some]
            show wpList _ _ _ _ _ _
            go_wp2
            first | exact ⟨Only.refl _ _, rfl⟩ | exact ⟨fun h => absurd h (by decide), Only.refl _ _, rfl⟩
          · injection ho with ho
            subst ho
            intro v hv
            try (obtain rfl : v = _ := hv)
            try (obtain rfl : v = _ := hv rfl)
            intro v hv
            try (obtain rfl : v = _ := hv)
            try (obtain rfl : v = _ := hv rfl)
            simp only [Lex.dstOf, List.getElem?_cons_zero, List.getElem?_cons_succ, Option.bind_some]
            show wpList _ _ _ _ _ _
            go_wp2
            first | exact ⟨Only.refl _ _, rfl⟩ | exact ⟨fun h => absurd h (by decide), Only.refl _ _, rfl⟩
          · injection ho with ho
            subst ho
            intro v hv
            try (obtain rfl : v = _ := hv)
            try (obtain rfl : v = _ := hv rfl)
            intro v hv
            try (obtain rfl : v = _ := hv)
            try (obtain rfl : v = _ := hv rfl)
            simp only [Lex.dstOf, List.getElem?_cons_zero, List.getElem?_cons_succ, Option.bind_some]
            show wpList _ _ _ _ _ _
            go_wp2
            exact ⟨rfl, Only.refl _ _, rfl⟩
          · injection ho with ho
            subst ho
            intro v hv
            try (obtain rfl : v = _ := hv)
            try (obtain rfl : v = _ := hv rfl)
            simp only [Lex.dstOf, List.getElem?_cons_zero, List.getElem?_cons_succ, Option.bind_some]
            show wpList _ _ _ _ _ _
            go_wp2
            exact ⟨rfl, Only.refl _ _, rfl⟩
          · injection ho with ho
            subst ho
            intro v hv
            try (obtain rfl : v = _ := hv)
            try (obtain rfl : v = _ := hv rfl)
            simp only [Lex.dstOf, List.getElem?_cons_zero, List.getElem?_cons_succ, Option.bind_some]
            show wpList _ _ _ _ _ _
            go_wp2
            first | exact ⟨Only.refl _ _, rfl⟩ | exact ⟨fun h => absurd h (by decide), Only.refl _ _, rfl⟩ | exact ⟨fun _ => iv_eq (by have := HX.out; omega), Only.refl _ _, rfl⟩ | exact ⟨iv_eq (by have := HX.out; omega), Only.refl _ _, rfl⟩
          · injection ho with ho
            subst ho
            intro v hv
            try (obtain rfl : v = _ := hv)
            try (obtain rfl : v = _ := hv rfl)
            intro v hv
            try (obtain rfl : v = _ := hv)
            try (obtain rfl : v = _ := hv rfl)
            simp only [Lex.dstOf, List.getElem?_cons_zero, List.getElem?_cons_succ, Option.bind_some]
            show wpList _ _ _ _ _ _
            go_wp2
            first | exact ⟨Only.refl _ _, rfl⟩ | exact ⟨fun h => absurd h (by decide), Only.refl _ _, rfl⟩ | exact ⟨fun _ => rfl, Only.refl _ _, rfl⟩ | exact ⟨rfl, Only.refl _ _, rfl⟩
          · injection ho with ho
            subst ho
            intro v hv
            try (obtain rfl : v = _ := hv)
            try (obtain rfl : v = _ := hv rfl)
            intro v hv
            try (obtain rfl : v = _ := hv)
            try (obtain rfl : v = _ := hv rfl)
            simp only [Lex.dstOf, List.getElem?_cons_zero, List.getElem?_cons_succ, Option.bind_some]
            show wpList _ _ _ _ _ _
            go_wp2
            exact ⟨rfl, Only.refl _ _, rfl⟩
          · injection ho with ho
            subst ho
            intro v hv
            try (obtain rfl : v = _ := hv)
            try (obtain rfl : v = _ := hv rfl)
            intro v hv
            try (obtain rfl : v = _ := hv)
            try (obtain rfl : v = _ := hv rfl)
            simp only [Lex.dstOf, List.getElem?_cons_zero, List.getElem?_cons_succ, Option.bind_some]
            show wpList _ _ _ _ _ _
            go_wp2
            exact ⟨by first | rfl | simp, Only.refl _ _, rfl⟩
          · injection ho with ho
            subst ho
            intro v hv
            try (obtain rfl : v = _ := hv)
            try (obtain rfl : v = _ := hv rfl)
            simp only [Lex.dstOf, List.getElem?_cons_zero, List.getElem?_cons_succ, Option.bind_some]
            show wpList _ _ _ _ _ _
            go_wp2
            exact ⟨rfl, Only.refl _ _, rfl⟩
          · cases ho
        intro w8 hR
        have HO8 := Lib.hid (HO7.out.trans ((Only.refl [] w7).drew.trans hR))
        clear hR
        show ∀ v0, _ → ∀ v1, _ → ∀ v2, _ → ∀ v3, _ → ∀ v4, _ → ∀ v5, _ → ∀ v6, _ → ∀ v7, _ → ∀ v8, _ → ∀ v9, _ → ∀ v10, _ → ∀ v11, _ → ∀ v12, _ → ∀ v13, _ → ∀ v14, _ → Exit.then _ _ _ _ _
        intro v0 _ v1 _ v2 _ v3 _ v4 _ v5 _ v6 _ v7 _ v8 _ v9 _ v10 _ v11 _ v12 _ v13 _ v14 h14
        simp only [Lex.dstOf, List.getElem?_cons_zero, List.getElem?_cons_succ, Option.bind_some]
        obtain rfl : v14 = _ := h14
        go_wp2
        exact bodyPost_ret (results_tmp rfl _ _ _) rfl ⟨rfl, HO8.out⟩
    · have HMA := Lib.hid hma
      cases hmb : b.may
      · have HMB := Lib.hid hmb
        clear hma hmb
        have HE := Lib.hid (show a.same b = false by rw [HS.out, HMA.out, HMB.out]; rfl)
        refine Lex.wp_region_each (by kernel_rfl) [[], [], [0, 1], [], [3], [4], [5], [5, 6], [5, 7], [8], [9], [9, 10], [9, 11], [2, 12], [13]] (by kernel_rfl) (by rfl) (fun a b => Only [] a b) (Only.refl _) (fun _ _ _ => Only.trans)
          (fun q v _ => match q with
            | 0 => v = .agg #[iv k, iv i, fv r, .string t, .slice s n cap]
            | 1 => v = .agg #[iv k2, iv i2, fv r2, .string t2, .slice s2 n2 cap2]
            | 2 => v = .bool false
            | 3 => v = .agg #[iv k, iv i, fv r, .string t, .slice s n cap]
            | 4 => v = .bool true
            | 5 => v = .bool true
            | 6 => true = true → v = .agg #[iv k2, iv i2, fv r2, .string t2, .slice s2 n2 cap2]
            | 7 => true = true → v = .bool false
            | 8 => v = .bool false
            | 9 => v = .bool false
            | 10 => false = true → v = iv (a.cmp b)
            | 11 => false = true → v = .bool (a.cmp b == 0)
            | 12 => v = .bool false
            | 13 => v = .bool true
            | _ => v = .bool true) (fun _ _ _ _ h _ => h) ?_ ?_
        · intro j o ho w8 hR
          have HR := Lib.hid hR
          clear hR
          rcases j with _ | _ | _ | _ | _ | _ | _ | _ | _ | _ | _ | _ | _ | _ | _ | j
          · injection ho with ho
            subst ho
            have hb := HB17.out.drew.only HR.out (by simp)
            have p0 := hb.cell 0
            have p1 := hb.cell 1
            have p2 := hb.cell 2
            have p3 := hb.cell 3
            have p4 := hb.cell 4
            simp at p0 p1 p2 p3 p4
            clear hb
            show wpList _ _ _ _ _ _
            go_wp2
            exact ⟨rfl, Only.refl _ _, rfl⟩
          · injection ho with ho
            subst ho
            have hb := HB27.out.drew.only HR.out (by simp)
            have p0 := hb.cell 0
            have p1 := hb.cell 1
            have p2 := hb.cell 2
            have p3 := hb.cell 3
            have p4 := hb.cell 4
            simp at p0 p1 p2 p3 p4
            clear hb
            show wpList _ _ _ _ _ _
            go_wp2
            exact ⟨rfl, Only.refl _ _, rfl⟩
          · injection ho with ho
            subst ho
            intro v hv
            try (obtain rfl : v = _ := hv)
            try (obtain rfl : v = _ := hv rfl)
            intro v hv
            try (obtain rfl : v = _ := hv)
            try (obtain rfl : v = _ := hv rfl)
            simp only [Lex.dstOf, List.getElem?_cons_zero, List.getElem?_cons_succ, Option.bind_some]
            have HQ := Lib.hid (same_ok (HA7.out.only0 ((Only.refl _ _).drew.trans HR.out)) (HV7.out.only0 ((Only.refl _ _).drew.trans HR.out)))
            rw [HE.out] at HQ
            show wpList _ _ _ _ _ _
            go_wp2_with fail
            refine HQ.out.mono ?_
            clear HQ
            rintro e w9 ⟨rfl, ho⟩
            go_wp2
            exact ⟨rfl, ho, rfl⟩
          · injection ho with ho
            subst ho
            have hb := HB17.out.drew.only HR.out (by simp)
            have p0 := hb.cell 0
            have p1 := hb.cell 1
            have p2 := hb.cell 2
            have p3 := hb.cell 3
            have p4 := hb.cell 4
            simp at p0 p1 p2 p3 p4
            clear hb
            show wpList _ _ _ _ _ _
            go_wp2
            exact ⟨rfl, Only.refl _ _, rfl⟩
          · injection ho with ho
            subst ho
            intro v hv
            try (obtain rfl : v = _ := hv)
            try (obtain rfl : v = _ := hv rfl)
            simp only [Lex.dstOf, List.getElem?_cons_zero, List.getElem?_cons_succ, Option.bind_some]
            have HQ := Lib.hid (may_ok (HA7.out.only0 ((Only.refl _ _).drew.trans HR.out)))
            rw [HMA.out] at HQ
            show wpList _ _ _ _ _ _
            go_wp2_with fail
            refine HQ.out.mono ?_
            clear HQ
            rintro e w9 ⟨rfl, ho⟩
            go_wp2
            exact ⟨rfl, ho, rfl⟩
          · injection ho with ho
            subst ho
            intro v hv
            try (obtain rfl : v = _ := hv)
            try (obtain rfl : v = _ := hv rfl)
            simp only [Lex.dstOf, List.getElem?_cons_zero, List.getElem?_cons_succ, Option.bind_some]
            show wpList _ _ _ _ _ _
            go_wp2
            exact ⟨rfl, Only.refl _ _, rfl⟩
          · injection ho with ho
            subst ho
            intro v hv
            try (obtain rfl : v = _ := hv)
            try (obtain rfl : v = _ := hv rfl)
            simp only [Lex.dstOf, List.getElem?_cons_zero, List.getElem?_cons_succ, Option.bind_some]
            have hb := HB27.out.drew.only HR.out (by simp)
            have p0 := hb.cell 0
            have p1 := hb.cell 1
            have p2 := hb.cell 2
            have p3 := hb.cell 3
            have p4 := hb.cell 4
            simp at p0 p1 p2 p3 p4
            clear hb
            show wpList _ _ _ _ _ _
            go_wp2
            exact ⟨fun _ => rfl, Only.refl _ _, rfl⟩
          · injection ho with ho
            subst ho
            intro v hv
            try (obtain rfl : v = _ := hv)
            try (obtain rfl : v = _ := hv rfl)
            intro v hv
            try (obtain rfl : v = _ := hv)
            try (obtain rfl : v = _ := hv rfl)
            simp only [Lex.dstOf, List.getElem?_cons_zero, List.getElem?_cons_succ, Option.bind_some]
            have HQ := Lib.hid (may_ok (HV7.out.only0 ((Only.refl _ _).drew.trans HR.out)))
            rw [HMB.out] at HQ
            show wpList _ _ _ _ _ _
            go_wp2_with fail
            refine HQ.out.mono ?_
            clear HQ
            rintro e w9 ⟨rfl, ho⟩
            go_wp2
            exact ⟨fun _ => rfl, ho, rfl⟩
          · injection ho with ho
            subst ho
            intro v hv
            try (obtain rfl : v = _ := hv)
            try (obtain rfl : v = _ := hv rfl)
            intro v hv
            try (obtain rfl : v = _ := hv)
            try (obtain rfl : v = _ := hv rfl)
            simp only [Lex.dstOf, List.getElem?_cons_zero, List.getElem?_cons_succ, Option.bind_some]
            show wpList _ _ _ _ _ _
            go_wp2
            exact ⟨rfl, Only.refl _ _, rfl⟩
          · injection ho with ho
            subst ho
            intro v hv
            try (obtain rfl : v = _ := hv)
            try (obtain rfl : v = _ := hv rfl)
            simp only [Lex.dstOf, List.getElem?_cons_zero, List.getElem?_cons_succ, Option.bind_some]
            show wpList _ _ _ _ _ _
            go_wp2
            exact ⟨rfl, Only.refl _ _, rfl⟩
          · injection ho with ho
            subst ho
            intro v hv
            try (obtain rfl : v = _ := hv)
            try (obtain rfl : v = _ := hv rfl)
            simp only [Lex.dstOf, List.getElem?_cons_zero, List.getElem?_cons_succ, Option.bind_some]
            show wpList _ _ _ _ _ _
            go_wp2
            first | exact ⟨Only.refl _ _, rfl⟩ | exact ⟨fun h => absurd h (by decide), Only.refl _ _, rfl⟩ | exact ⟨fun _ => iv_eq (by have := HX.out; omega), Only.refl _ _, rfl⟩ | exact ⟨iv_eq (by have := HX.out; omega), Only.refl _ _, rfl⟩
          · injection ho with ho
            subst ho
            intro v hv
            try (obtain rfl : v = _ := hv)
            try (obtain rfl : v = _ := hv rfl)
            intro v hv
            try (obtain rfl : v = _ := hv)
            try (obtain rfl : v = _ := hv rfl)
            simp only [Lex.dstOf, List.getElem?_cons_zero, List.getElem?_cons_succ, Option.bind_some]
            show wpList _ _ _ _ _ _
            go_wp2
            first | exact ⟨Only.refl _ _, rfl⟩ | exact ⟨fun h => absurd h (by decide), Only.refl _ _, rfl⟩ | exact ⟨fun _ => rfl, Only.refl _ _, rfl⟩ | exact ⟨rfl, Only.refl _ _, rfl⟩
          · injection ho with ho
            subst ho
            intro v hv
            try (obtain rfl : v = _ := hv)
            try (obtain rfl : v = _ := hv rfl)
            intro v hv
            try (obtain rfl : v = _ := hv)
            try (obtain rfl : v = _ := hv rfl)
            simp only [Lex.dstOf, List.getElem?_cons_zero, List.getElem?_cons_succ, Option.bind_some]
            show wpList _ _ _ _ _ _
            go_wp2
            exact ⟨rfl, Only.refl _ _, rfl⟩
          · injection ho with ho
            subst ho
            intro v hv
            try (obtain rfl : v = _ := hv)
            try (obtain rfl : v = _ := hv rfl)
            intro v hv
            try (obtain rfl : v = _ := hv)
            try (obtain rfl : v = _ := hv rfl)
            simp only [Lex.dstOf, List.getElem?_cons_zero, List.getElem?_cons_succ, Option.bind_some]
            show wpList _ _ _ _ _ _
            go_wp2
            exact ⟨by first | rfl | simp, Only.refl _ _, rfl⟩
          · injection ho with ho
            subst ho
            intro v hv
            try (obtain rfl : v = _ := hv)
            try (obtain rfl : v = _ := hv rfl)
            simp only [Lex.dstOf, List.getElem?_cons_zero, List.getElem?_cons_succ, Option.bind_some]
            show wpList _ _ _ _ _ _
            go_wp2
            exact ⟨rfl, Only.refl _ _, rfl⟩
          · cases ho
        intro w8 hR
        have HO8 := Lib.hid (HO7.out.trans ((Only.refl [] w7).drew.trans hR))
        clear hR
        show ∀ v0, _ → ∀ v1, _ → ∀ v2, _ → ∀ v3, _ → ∀ v4, _ → ∀ v5, _ → ∀ v6, _ → ∀ v7, _ → ∀ v8, _ → ∀ v9, _ → ∀ v10, _ → ∀ v11, _ → ∀ v12, _ → ∀ v13, _ → ∀ v14, _ → Exit.then _ _ _ _ _
        intro v0 _ v1 _ v2 _ v3 _ v4 _ v5 _ v6 _ v7 _ v8 _ v9 _ v10 _ v11 _ v12 _ v13 _ v14 h14
        simp only [Lex.dstOf, List.getElem?_cons_zero, List.getElem?_cons_succ, Option.bind_some]
        obtain rfl : v14 = _ := h14
        go_wp2
        exact bodyPost_ret (results_tmp rfl _ _ _) rfl ⟨rfl, HO8.out⟩
      · have HMB := Lib.hid hmb
        clear hma hmb
        have HE := Lib.hid (show a.same b = (a.cmp b == 0) by rw [HS.out, HMA.out, HMB.out]; rfl)
        refine Lex.wp_region_each (by kernel_rfl) [[], [], [0, 1], [], [3], [4], [5], [5, 6], [5, 7], [8], [9], [9, 10], [9, 11], [2, 12], [13]] (by kernel_rfl) (by rfl) (fun a b => Only [] a b) (Only.refl _) (fun _ _ _ => Only.trans)
          (fun q v _ => match q with
            | 0 => v = .agg #[iv k, iv i, fv r, .string t, .slice s n cap]
            | 1 => v = .agg #[iv k2, iv i2, fv r2, .string t2, .slice s2 n2 cap2]
            | 2 => v = .bool (a.cmp b == 0)
            | 3 => v = .agg #[iv k, iv i, fv r, .string t, .slice s n cap]
            | 4 => v = .bool true
            | 5 => v = .bool true
            | 6 => true = true → v = .agg #[iv k2, iv i2, fv r2, .string t2, .slice s2 n2 cap2]
            | 7 => true = true → v = .bool true
            | 8 => v = .bool true
            | 9 => v = .bool true
            | 10 => true = true → v = iv (a.cmp b)
            | 11 => true = true → v = .bool (a.cmp b == 0)
            | 12 => v = .bool (a.cmp b == 0)
            | 13 => v = .bool true
            | _ => v = .bool true) (fun _ _ _ _ h _ => h) ?_ ?_
        · intro j o ho w8 hR
          have HR := Lib.hid hR
          clear hR
          rcases j with _ | _ | _ | _ | _ | _ | _ | _ | _ | _ | _ | _ | _ | _ | _ | j
          · injection ho with ho
            subst ho
            have hb := HB17.out.drew.only HR.out (by simp)
            have p0 := hb.cell 0
            have p1 := hb.cell 1
            have p2 := hb.cell 2
            have p3 := hb.cell 3
            have p4 := hb.cell 4
            simp at p0 p1 p2 p3 p4
            clear hb
            show wpList _ _ _ _ _ _
            go_wp2
            exact ⟨rfl, Only.refl _ _, rfl⟩
          · injection ho with ho
            subst ho
            have hb := HB27.out.drew.only HR.out (by simp)
            have p0 := hb.cell 0
            have p1 := hb.cell 1
            have p2 := hb.cell 2
            have p3 := hb.cell 3
            have p4 := hb.cell 4
            simp at p0 p1 p2 p3 p4
            clear hb
            show wpList _ _ _ _ _ _
            go_wp2
            exact ⟨rfl, Only.refl _ _, rfl⟩
          · injection ho with ho
            subst ho
            intro v hv
            try (obtain rfl : v = _ := hv)
            try (obtain rfl : v = _ := hv rfl)
            intro v hv
            try (obtain rfl : v = _ := hv)
            try (obtain rfl : v = _ := hv rfl)
            simp only [Lex.dstOf, List.getElem?_cons_zero, List.getElem?_cons_succ, Option.bind_some]
            have HQ := Lib.hid (same_ok (HA7.out.only0 ((Only.refl _ _).drew.trans HR.out)) (HV7.out.only0 ((Only.refl _ _).drew.trans HR.out)))
            rw [HE.out] at HQ
            show wpList _ _ _ _ _ _
            go_wp2_with fail
            refine HQ.out.mono ?_
            clear HQ
            rintro e w9 ⟨rfl, ho⟩
            go_wp2
            exact ⟨rfl, ho, rfl⟩
          · injection ho with ho
            subst ho
            have hb := HB17.out.drew.only HR.out (by simp)
            have p0 := hb.cell 0
            have p1 := hb.cell 1
            have p2 := hb.cell 2
            have p3 := hb.cell 3
            have p4 := hb.cell 4
            simp at p0 p1 p2 p3 p4
            clear hb
            show wpList _ _ _ _ _ _
            go_wp2
            exact ⟨rfl, Only.refl _ _, rfl⟩
          · injection ho with ho
            subst ho
            intro v hv
            try (obtain rfl : v = _ := hv)
            try (obtain rfl : v = _ := hv rfl)
            simp only [Lex.dstOf, List.getElem?_cons_zero, List.getElem?_cons_succ, Option.bind_some]
            have HQ := Lib.hid (may_ok (HA7.out.only0 ((Only.refl _ _).drew.trans HR.out)))
            rw [HMA.out] at HQ
            show wpList _ _ _ _ _ _
            go_wp2_with fail
            refine HQ.out.mono ?_
            clear HQ
            rintro e w9 ⟨rfl, ho⟩
            go_wp2
            exact ⟨rfl, ho, rfl⟩
          · injection ho with ho
            subst ho
            intro v hv
            try (obtain rfl : v = _ := hv)
            try (obtain rfl : v = _ := hv rfl)
            simp only [Lex.dstOf, List.getElem?_cons_zero, List.getElem?_cons_succ, Option.bind_some]
            show wpList _ _ _ _ _ _
            go_wp2
            exact ⟨rfl, Only.refl _ _, rfl⟩
          · injection ho with ho
            subst ho
            intro v hv
            try (obtain rfl : v = _ := hv)
            try (obtain rfl : v = _ := hv rfl)
            simp only [Lex.dstOf, List.getElem?_cons_zero, List.getElem?_cons_succ, Option.bind_some]
            have hb := HB27.out.drew.only HR.out (by simp)
            have p0 := hb.cell 0
            have p1 := hb.cell 1
            have p2 := hb.cell 2
            have p3 := hb.cell 3
            have p4 := hb.cell 4
            simp at p0 p1 p2 p3 p4
            clear hb
            show wpList _ _ _ _ _ _
            go_wp2
            exact ⟨fun _ => rfl, Only.refl _ _, rfl⟩
          · injection ho with ho
            subst ho
            intro v hv
            try (obtain rfl : v = _ := hv)
            try (obtain rfl : v = _ := hv rfl)
            intro v hv
            try (obtain rfl : v = _ := hv)
            try (obtain rfl : v = _ := hv rfl)
            simp only [Lex.dstOf, List.getElem?_cons_zero, List.getElem?_cons_succ, Option.bind_some]
            have HQ := Lib.hid (may_ok (HV7.out.only0 ((Only.refl _ _).drew.trans HR.out)))
            rw [HMB.out] at HQ
            show wpList _ _ _ _ _ _
            go_wp2_with fail
            refine HQ.out.mono ?_
            clear HQ
            rintro e w9 ⟨rfl, ho⟩
            go_wp2
            exact ⟨fun _ => rfl, ho, rfl⟩
          · injection ho with ho
            subst ho
            intro v hv
            try (obtain rfl : v = _ := hv)
            try (obtain rfl : v = _ := hv rfl)
            intro v hv
            try (obtain rfl : v = _ := hv)
            try (obtain rfl : v = _ := hv rfl)
            simp only [Lex.dstOf, List.getElem?_cons_zero, List.getElem?_cons_succ, Option.bind_some]
            show wpList _ _ _ _ _ _
            go_wp2
            exact ⟨rfl, Only.refl _ _, rfl⟩
          · injection ho with ho
            subst ho
            intro v hv
            try (obtain rfl : v = _ := hv)
            try (obtain rfl : v = _ := hv rfl)
            simp only [Lex.dstOf, List.getElem?_cons_zero, List.getElem?_cons_succ, Option.bind_some]
            show wpList _ _ _ _ _ _
            go_wp2
            exact ⟨rfl, Only.refl _ _, rfl⟩
          · injection ho with ho
            subst ho
            intro v hv
            try (obtain rfl : v = _ := hv)
            try (obtain rfl : v = _ := hv rfl)
            simp only [Lex.dstOf, List.getElem?_cons_zero, List.getElem?_cons_succ, Option.bind_some]
            show wpList _ _ _ _ _ _
            go_wp2
            first | exact ⟨Only.refl _ _, rfl⟩ | exact ⟨fun h => absurd h (by decide), Only.refl _ _, rfl⟩ | exact ⟨fun _ => iv_eq (by have := HX.out; omega), Only.refl _ _, rfl⟩ | exact ⟨iv_eq (by have := HX.out; omega), Only.refl _ _, rfl⟩
          · injection ho with ho
            subst ho
            intro v hv
            try (obtain rfl : v = _ := hv)
            try (obtain rfl : v = _ := hv rfl)
            intro v hv
            try (obtain rfl : v = _ := hv)
            try (obtain rfl : v = _ := hv rfl)
            simp only [Lex.dstOf, List.getElem?_cons_zero, List.getElem?_cons_succ, Option.bind_some]
            show wpList _ _ _ _ _ _
            go_wp2
            first | exact ⟨Only.refl _ _, rfl⟩ | exact ⟨fun h => absurd h (by decide), Only.refl _ _, rfl⟩ | exact ⟨fun _ => rfl, Only.refl _ _, rfl⟩ | exact ⟨rfl, Only.refl _ _, rfl⟩
          · injection ho with ho
            subst ho
            intro v hv
            try (obtain rfl : v = _ := hv)
            try (obtain rfl : v = _ := hv rfl)
            intro v hv
            try (obtain rfl : v = _ := hv)
            try (obtain rfl : v = _ := hv rfl)
            simp only [Lex.dstOf, List.getElem?_cons_zero, List.getElem?_cons_succ, Option.bind_some]
            show wpList _ _ _ _ _ _
            go_wp2
            exact ⟨rfl, Only.refl _ _, rfl⟩
          · injection ho with ho
            subst ho
            intro v hv
            try (obtain rfl : v = _ := hv)
            try (obtain rfl : v = _ := hv rfl)
            intro v hv
            try (obtain rfl : v = _ := hv)
            try (obtain rfl : v = _ := hv rfl)
            simp only [Lex.dstOf, List.getElem?_cons_zero, List.getElem?_cons_succ, Option.bind_some]
            show wpList _ _ _ _ _ _
            go_wp2
            exact ⟨by first | rfl | simp, Only.refl _ _, rfl⟩
          · injection ho with ho
            subst ho
            intro v hv
            try (obtain rfl : v = _ := hv)
            try (obtain rfl : v = _ := hv rfl)
            simp only [Lex.dstOf, List.getElem?_cons_zero, List.getElem?_cons_succ, Option.bind_some]
            show wpList _ _ _ _ _ _
            go_wp2
            exact ⟨rfl, Only.refl _ _, rfl⟩
          · cases ho
        intro w8 hR
        have HO8 := Lib.hid (HO7.out.trans ((Only.refl [] w7).drew.trans hR))
        clear hR
        show ∀ v0, _ → ∀ v1, _ → ∀ v2, _ → ∀ v3, _ → ∀ v4, _ → ∀ v5, _ → ∀ v6, _ → ∀ v7, _ → ∀ v8, _ → ∀ v9, _ → ∀ v10, _ → ∀ v11, _ → ∀ v12, _ → ∀ v13, _ → ∀ v14, _ → Exit.then _ _ _ _ _
        intro v0 _ v1 _ v2 _ v3 _ v4 _ v5 _ v6 _ v7 _ v8 _ v9 _ v10 _ v11 _ v12 _ v13 _ v14 h14
        simp only [Lex.dstOf, List.getElem?_cons_zero, List.getElem?_cons_succ, Option.bind_some]
        obtain rfl : v14 = _ := h14
        go_wp2
        exact bodyPost_ret (results_tmp rfl _ _ _) rfl ⟨rfl, HO8.out⟩
  )
end Go.Proofs.Ytffdfegelgpniaa
