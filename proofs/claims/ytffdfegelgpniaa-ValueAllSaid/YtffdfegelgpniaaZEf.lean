/-
  ValueAll: the walk.
-/
import Derived.Test.YtffdfegelgpniaaMm
import Derived.Test.YtffdfegelgpniaaMj
set_option linter.unusedSimpArgs false
set_option linter.unusedVariables false
set_option linter.unusedSimpArgs false
set_option linter.unusedVariables false
namespace Go.Proofs.Ytffdfegelgpniaa
open Go.Fl Go.RowKit

set_option maxRecDepth 1000000 in
set_option maxHeartbeats 25600000 in
theorem vall_ok (w : World) {F : Nat → Prop} {l : List V} {s : Value} (h : VL w F l s) : Calls Try.prog 8 #[s] w fun e w' => e = .returned (.bool true) ∧ Only [] w w' := by
  obtain ⟨a, cap, css, rfl, h1, h2, h3, h4⟩ := h
  have HC := Lib.hid h3
  have HI := Lib.hid h4
  have hlm : l.length ≤ maxLen := by omega
  unfold maxLen at hlm
  clear h3 h4 h1 h2
  go_enter Try.func8, Try.ntmps8
  have HQ := Lib.hid (begun_ok w)
  go_wp2_with fail
  refine HQ.out.mono ?_
  clear HQ
  rintro e w1 ⟨rfl, ho⟩
  have HW := Lib.hid ho
  clear ho
  go_wp2
  go_loopw [5] (fun z wr => ∃ k : Nat, k ≤ l.length ∧ z = .int .i64 k ∧ Hid (VB w1 wr.heap.size wr.heap.size wr)) (fun z _ => l.length - (intOf z).toNat)
  case atStart => exact ⟨0, Nat.zero_le _, rfl, Lib.hid (VB.begin w1).now⟩
  case round =>
    obtain ⟨k, hk, rfl, HV⟩ := hrel
    obtain ⟨wo, hwo⟩ : ∃ x : World, x = wr := ⟨_, rfl⟩
    subst hwo
    by_cases hkl : k < l.length
    case neg =>
      have hkz : ¬ (k : Int) < (l.length : Int) := by omega
      have HQ := Lib.hid HV.out.done
      go_wp2_with fail
      refine HQ.out.mono ?_
      clear HQ
      rintro e w9 ⟨rfl, h9⟩
      have HQ := Lib.hid h9
      clear h9
      go_wp2_with fail
      refine HQ.out.mono ?_
      clear HQ
      rintro e wA ⟨rfl, hoA⟩
      go_wp2
      exact bodyPost_ret (results_tmp rfl _ _ _) rfl ⟨rfl, HW.out.trans hoA⟩
    have hkz : (k : Int) < (l.length : Int) := by omega
    by_cases hk25 : k < 25
    case neg =>
      have hk25z : ¬ (k : Int) < 25 := by omega
      have HQ := Lib.hid HV.out.done
      go_wp2_with fail
      refine HQ.out.mono ?_
      clear HQ
      rintro e w9 ⟨rfl, h9⟩
      have HQ := Lib.hid h9
      clear h9
      go_wp2_with fail
      refine HQ.out.mono ?_
      clear HQ
      rintro e wA ⟨rfl, hoA⟩
      go_wp2
      exact bodyPost_ret (results_tmp rfl _ _ _) rfl ⟨rfl, HW.out.trans hoA⟩
    have hk25z : (k : Int) < 25 := by omega
    obtain ⟨g, off, rfl, hg, hF, hcc⟩ := HC.out (by omega)
    have HG := Lib.hid hg
    have HCC := Lib.hid hcc
    clear hg hcc
    obtain ⟨u, hE⟩ : ∃ u, VIs w F u (css k) := ⟨_, HI.out k hkl⟩
    obtain ⟨c0, c1, c2, c3, c4, c5, c6, hcs⟩ := hE.five
    rw [hcs] at hE
    have HE := Lib.hid hE
    have HX := Lib.hid (show ∀ c x, ([iv c0, iv c1, fv c2, .string c3, .slice c4 c5 c6] : List Value)[c]? = some x → w.cell? ⟨g, off + k * 5 + c, none⟩ = some x from fun c x hx => HCC.out k c x hkl (by rw [hcs]; exact hx))
    clear hE hcs
    have HOr := Lib.hid (HW.out.trans HV.out.only)
    have HQ := Lib.hid (Light_ok (HE.out.only0 HOr.out))
    have hx : ∀ c u, ([iv c0, iv c1, fv c2, .string c3, .slice c4 c5 c6] : List Value)[c]? = some u → wo.cell? ⟨g, off + k * 5 + c, none⟩ = some u := fun c u hu => (HOr.out.cell (p := ⟨g, off + k * 5 + c, none⟩) HG.out (by simp)).trans (HX.out c u hu)
    have x0 := hx 0 (iv c0) rfl
    have x1 := hx 1 (iv c1) rfl
    have x2 := hx 2 (fv c2) rfl
    have x3 := hx 3 (.string c3) rfl
    have x4 := hx 4 (.slice c4 c5 c6) rfl
    rw [Nat.add_zero] at x0
    clear hx
    cases hla : u.isLight
    · rw [hla] at HQ
      go_wp2_with fail
      refine HQ.out.mono ?_
      clear HQ x0 x1 x2 x3 x4
      rintro e w2 ⟨rfl, ho⟩
      have HV2 := Lib.hid (HV.out.only0 ho).now
      clear ho
      go_wp2
      go_roundw
      case measure => simp [intOf]; omega
      case rel => exact ⟨k + 1, by omega, by go_num, HV2⟩
    rw [hla] at HQ
    have HSM := Lib.hid (isLight_small hla)
    clear hla
    go_wp2_with fail
    refine HQ.out.mono ?_
    clear HQ x0 x1 x2 x3 x4
    rintro e w2 ⟨rfl, ho⟩
    have s2 := Lib.hid ho
    clear ho
    have HO2 := Lib.hid (HOr.out.trans s2.out)
    have HQ := Lib.hid (twin_ok u w2 F _ (HE.out.only0 HO2.out) HSM.out)
    have hx : ∀ c u, ([iv c0, iv c1, fv c2, .string c3, .slice c4 c5 c6] : List Value)[c]? = some u → w2.cell? ⟨g, off + k * 5 + c, none⟩ = some u := fun c u hu => (HO2.out.cell (p := ⟨g, off + k * 5 + c, none⟩) HG.out (by simp)).trans (HX.out c u hu)
    have x0 := hx 0 (iv c0) rfl
    have x1 := hx 1 (iv c1) rfl
    have x2 := hx 2 (fv c2) rfl
    have x3 := hx 3 (.string c3) rfl
    have x4 := hx 4 (.slice c4 c5 c6) rfl
    rw [Nat.add_zero] at x0
    clear hx
    go_wp2_with fail
    refine HQ.out.mono ?_
    clear HQ x0 x1 x2 x3 x4
    rintro e w3 ⟨cs1, S1, rfl, hto, hnd, hge, ho⟩
    obtain ⟨p0, p1, p2, p3, p4, p5, p6, rfl⟩ := hto.form
    have T3 := Lib.hid hto
    have s3 := Lib.hid ho
    clear hto hnd hge ho
    go_wp2_with (refine wpList_store_blk rfl 33 (.tmp 6) (.tmp 46) rfl [iv p0, iv p1, fv p2, .string p3, .slice p4 p5 p6] rfl rfl (Blk.new _ _ _) (by kernel_rfl) (by simp) (by simp [Value.oneCell']) ?_)
    intro w4 hB hO
    have s4 := Lib.hid (((Only.refl [] w3).alloc _).trans' hO (fun i hi => .inr (by simp at hi; omega)))
    have B6 := Lib.hid (show Blk w4 w3.heap.size 33 #[iv p0, iv p1, fv p2, .string p3, .slice p4 p5 p6] from hB)
    clear hB hO
    have HQ := Lib.hid ((copy_ok (T3.out.vis.only0 s4.out)).mono fun _ _ h => copy_any h)
    have hbx := B6.out
    have x0 := hbx.cell 0
    have x1 := hbx.cell 1
    have x2 := hbx.cell 2
    have x3 := hbx.cell 3
    have x4 := hbx.cell 4
    simp at x0 x1 x2 x3 x4
    clear hbx
    go_wp2_with fail
    refine HQ.out.mono ?_
    clear HQ x0 x1 x2 x3 x4
    rintro e w5 ⟨cs2, S2, rfl, hvo, hnd, hge, ho⟩
    obtain ⟨q0, q1, q2, q3, q4, q5, q6, rfl⟩ := hvo.form
    have C5 := Lib.hid hvo
    have ND5 := Lib.hid hnd
    have GE5 := Lib.hid hge
    have s5 := Lib.hid ho
    clear hvo hnd hge ho
    go_wp2_with (refine wpList_store_blk rfl 33 (.tmp 7) (.tmp 50) rfl [iv q0, iv q1, fv q2, .string q3, .slice q4 q5 q6] rfl rfl (Blk.new _ _ _) (by kernel_rfl) (by simp) (by simp [Value.oneCell']) ?_)
    intro w6 hB hO
    have s6 := Lib.hid (((Only.refl [] w5).alloc _).trans' hO (fun i hi => .inr (by simp at hi; omega)))
    have B7 := Lib.hid (show Blk w6 w5.heap.size 33 #[iv q0, iv q1, fv q2, .string q3, .slice q4 q5 q6] from hB)
    clear hB hO
    have HO6 := Lib.hid (HO2.out.trans (s3.out.trans (s4.out.trans (s5.out.trans s6.out))))
    have HQ := Lib.hid ((copy2_ok (HE.out.only0 HO6.out)).mono fun _ _ h => copy_any h)
    have hx : ∀ c u, ([iv c0, iv c1, fv c2, .string c3, .slice c4 c5 c6] : List Value)[c]? = some u → w6.cell? ⟨g, off + k * 5 + c, none⟩ = some u := fun c u hu => (HO6.out.cell (p := ⟨g, off + k * 5 + c, none⟩) HG.out (by simp)).trans (HX.out c u hu)
    have x0 := hx 0 (iv c0) rfl
    have x1 := hx 1 (iv c1) rfl
    have x2 := hx 2 (fv c2) rfl
    have x3 := hx 3 (.string c3) rfl
    have x4 := hx 4 (.slice c4 c5 c6) rfl
    rw [Nat.add_zero] at x0
    clear hx
    go_wp2_with fail
    refine HQ.out.mono ?_
    clear HQ x0 x1 x2 x3 x4
    rintro e w7 ⟨cs3, S3, rfl, hvo, hnd, hge, ho⟩
    obtain ⟨r0, r1, r2, r3, r4, r5, r6, rfl⟩ := hvo.form
    have C7 := Lib.hid hvo
    have s7 := Lib.hid ho
    clear hvo hnd hge ho
    go_wp2_with (refine wpList_store_blk rfl 33 (.tmp 9) (.tmp 58) rfl [iv r0, iv r1, fv r2, .string r3, .slice r4 r5 r6] rfl rfl (Blk.new _ _ _) (by kernel_rfl) (by simp) (by simp [Value.oneCell']) ?_)
    intro w8 hB hO
    have s8 := Lib.hid (((Only.refl [] w7).alloc _).trans' hO (fun i hi => .inr (by simp at hi; omega)))
    have B9 := Lib.hid (show Blk w8 w7.heap.size 33 #[iv r0, iv r1, fv r2, .string r3, .slice r4 r5 r6] from hB)
    clear hB hO
    have s58 := Lib.hid (s5.out.trans (s6.out.trans (s7.out.trans s8.out)))
    have HQ := Lib.hid ((Key_ok (T3.out.vis.only0 (s4.out.trans s58.out))).mono fun _ _ h => key_any h)
    have hbx := B6.out.only s58.out (by simp)
    have x0 := hbx.cell 0
    have x1 := hbx.cell 1
    have x2 := hbx.cell 2
    have x3 := hbx.cell 3
    have x4 := hbx.cell 4
    simp at x0 x1 x2 x3 x4
    clear hbx
    go_wp2_with fail
    refine HQ.out.mono ?_
    clear HQ x0 x1 x2 x3 x4
    rintro e w9 ⟨ma, mc, rfl, hsl, hge, ho⟩
    have M9 := Lib.hid hsl
    have GE9 := Lib.hid hge
    have s9 := Lib.hid ho
    clear hsl hge ho
    have HO9 := Lib.hid (HO6.out.trans (s7.out.trans (s8.out.trans s9.out)))
    have HQ := Lib.hid ((Key2_ok (HE.out.only0 HO9.out)).mono fun _ _ h => key_any h)
    have hx : ∀ c u, ([iv c0, iv c1, fv c2, .string c3, .slice c4 c5 c6] : List Value)[c]? = some u → w9.cell? ⟨g, off + k * 5 + c, none⟩ = some u := fun c u hu => (HO9.out.cell (p := ⟨g, off + k * 5 + c, none⟩) HG.out (by simp)).trans (HX.out c u hu)
    have x0 := hx 0 (iv c0) rfl
    have x1 := hx 1 (iv c1) rfl
    have x2 := hx 2 (fv c2) rfl
    have x3 := hx 3 (.string c3) rfl
    have x4 := hx 4 (.slice c4 c5 c6) rfl
    rw [Nat.add_zero] at x0
    clear hx
    go_wp2_with fail
    refine HQ.out.mono ?_
    clear HQ x0 x1 x2 x3 x4
    rintro e wA ⟨na, nc, rfl, hsl, hge, ho⟩
    have NA := Lib.hid hsl
    have sA := Lib.hid ho
    clear hsl hge ho
    have HOA := Lib.hid (HO9.out.trans sA.out)
    have s5A := Lib.hid (s58.out.trans (s9.out.trans sA.out))
    have TA := Lib.hid (T3.out.keep fun g hg => (s4.out.trans s5A.out).block g (T3.out.lt g hg) (by simp))
    have EA := Lib.hid (HE.out.only0 HOA.out)
    have CA := Lib.hid (C5.out.only (s6.out.trans (s7.out.trans (s8.out.trans (s9.out.trans sA.out)))) (fun _ _ => by simp))
    have DA := Lib.hid (C7.out.only (s8.out.trans (s9.out.trans sA.out)) (fun _ _ => by simp))
    have MA := Lib.hid (M9.out.only sA.out (fun _ _ => by simp))
    have B6A := Lib.hid (B6.out.only s5A.out (by simp))
    have B7A := Lib.hid (B7.out.only (s7.out.trans (s8.out.trans (s9.out.trans sA.out))) (by simp))
    have B9A := Lib.hid (B9.out.only (s9.out.trans sA.out) (by simp))
    go_wp2
    refine Lex.wp_region_each (by kernel_rfl) [[], [0], [], [], [2, 3], [4], [5], [1, 6], [7], [8], [8, 9], [8], [8], [8, 11, 12], [8, 13], [8, 14], [8, 10, 15], [8, 16], [17], [18], [18], [18, 19, 20], [18, 21], [22], [23], [23], [23, 24, 25], [23, 26], [23, 27], [28], [29], [29], [29, 30, 31], [29, 32], [33], [34], [34], [34, 35, 36], [34, 37], [34, 38], [39], [40], [40], [40], [40, 42, 43], [40, 44], [40, 41, 45], [40, 46], [40, 47]] (by kernel_rfl) (by rfl) (fun a b => Only [] a b) (Only.refl _) (fun _ _ _ => Only.trans)
      (fun q v _ => match q with
        | 0 => v = .agg #[iv p0, iv p1, fv p2, .string p3, .slice p4 p5 p6]
        | 1 => v = .bool u.may
        | 2 => v = .slice (some ⟨g, off, none⟩) l.length cap
        | 3 => v = .int .i64 k
        | 4 => v = .pointer (some ⟨g, off + k * 5, none⟩)
        | 5 => v = .agg #[iv c0, iv c1, fv c2, .string c3, .slice c4 c5 c6]
        | 6 => v = .bool u.may
        | 7 => v = .bool false
        | 8 => v = .bool false
        | 9 => v = .agg #[iv p0, iv p1, fv p2, .string p3, .slice p4 p5 p6]
        | 10 => v = iv u.size
        | 11 => v = .slice (some ⟨g, off, none⟩) l.length cap
        | 12 => v = .int .i64 k
        | 13 => v = .pointer (some ⟨g, off + k * 5, none⟩)
        | 14 => v = .agg #[iv c0, iv c1, fv c2, .string c3, .slice c4 c5 c6]
        | 15 => v = iv u.size
        | 16 => v = .bool false
        | 17 => v = .bool false
        | 18 => v = .bool false
        | 19 => v = iv (cpE u)
        | 20 => v = iv (cpE u)
        | 21 => v = .bool false
        | 22 => v = .bool false
        | 23 => v = .bool false
        | 24 => v = .agg #[iv q0, iv q1, fv q2, .string q3, .slice q4 q5 q6]
        | 25 => v = .agg #[iv r0, iv r1, fv r2, .string r3, .slice r4 r5 r6]
        | 26 => v = .bool true
        | 27 => v = .bool false
        | 28 => v = .bool false
        | 29 => v = .bool false
        | 30 => v = iv (cpE u)
        | 31 => v = iv (cpE u)
        | 32 => v = .bool false
        | 33 => v = .bool false
        | 34 => v = .bool false
        | 35 => v = .slice ma (kyB u).length mc
        | 36 => v = .slice na (kyB u).length nc
        | 37 => v = .bool true
        | 38 => v = .bool false
        | 39 => v = .bool false
        | 40 => v = .bool false
        | 41 => v = .agg #[iv p0, iv p1, fv p2, .string p3, .slice p4 p5 p6]
        | 42 => v = .slice (some ⟨g, off, none⟩) l.length cap
        | 43 => v = .int .i64 k
        | 44 => v = .pointer (some ⟨g, off + k * 5, none⟩)
        | 45 => v = .agg #[iv c0, iv c1, fv c2, .string c3, .slice c4 c5 c6]
        | 46 => v = .bool true
        | 47 => v = .bool false
        | _ => v = .bool false) (fun _ _ _ _ h _ => h) ?_ ?_
    · intro j o ho w8 hR
      have HR := Lib.hid hR
      clear hR
      rcases j with _ | _ | _ | _ | _ | _ | _ | _ | _ | _ | _ | _ | _ | _ | _ | _ | _ | _ | _ | _ | _ | _ | _ | _ | _ | _ | _ | _ | _ | _ | _ | _ | _ | _ | _ | _ | _ | _ | _ | _ | _ | _ | _ | _ | _ | _ | _ | _ | _ | j
      · injection ho with ho
        subst ho
        have hbx := B6A.out.only ((Only.refl [] wA).drew.trans HR.out) (by simp)
        have x0 := hbx.cell 0
        have x1 := hbx.cell 1
        have x2 := hbx.cell 2
        have x3 := hbx.cell 3
        have x4 := hbx.cell 4
        simp at x0 x1 x2 x3 x4
        clear hbx
        show wpList _ _ _ _ _ _
        go_wp2
        exact ⟨by first | rfl | simp, Only.refl _ _, rfl⟩
      · injection ho with ho
        subst ho
        intro v hv
        obtain rfl : v = _ := hv
        simp only [Lex.dstOf, List.getElem?_cons_zero, List.getElem?_cons_succ, Option.bind_some]
        have HQ := Lib.hid (may_ok (TA.out.vis.only0 ((Only.refl [] wA).drew.trans HR.out)))
        show wpList _ _ _ _ _ _
        go_wp2_with fail
        refine HQ.out.mono ?_
        clear HQ
        rintro e w9 ⟨rfl, ho⟩
        go_wp2
        exact ⟨rfl, ho, rfl⟩
      · injection ho with ho
        subst ho
        show wpList _ _ _ _ _ _
        go_wp2
        exact ⟨by first | rfl | simp, Only.refl _ _, rfl⟩
      · injection ho with ho
        subst ho
        show wpList _ _ _ _ _ _
        go_wp2
        exact ⟨by first | rfl | simp, Only.refl _ _, rfl⟩
      · injection ho with ho
        subst ho
        intro v hv
        obtain rfl : v = _ := hv
        intro v hv
        obtain rfl : v = _ := hv
        simp only [Lex.dstOf, List.getElem?_cons_zero, List.getElem?_cons_succ, Option.bind_some]
        show wpList _ _ _ _ _ _
        go_wp2
        exact ⟨by first | rfl | simp, Only.refl _ _, rfl⟩
      · injection ho with ho
        subst ho
        intro v hv
        obtain rfl : v = _ := hv
        simp only [Lex.dstOf, List.getElem?_cons_zero, List.getElem?_cons_succ, Option.bind_some]
        have hx : ∀ c u, ([iv c0, iv c1, fv c2, .string c3, .slice c4 c5 c6] : List Value)[c]? = some u → w8.cell? ⟨g, off + k * 5 + c, none⟩ = some u := fun c u hu => ((HOA.out.trans ((Only.refl [] wA).drew.trans HR.out)).cell (p := ⟨g, off + k * 5 + c, none⟩) HG.out (by simp)).trans (HX.out c u hu)
        have x0 := hx 0 (iv c0) rfl
        have x1 := hx 1 (iv c1) rfl
        have x2 := hx 2 (fv c2) rfl
        have x3 := hx 3 (.string c3) rfl
        have x4 := hx 4 (.slice c4 c5 c6) rfl
        rw [Nat.add_zero] at x0
        clear hx
        show wpList _ _ _ _ _ _
        go_wp2
        exact ⟨by first | rfl | simp, Only.refl _ _, rfl⟩
      · injection ho with ho
        subst ho
        intro v hv
        obtain rfl : v = _ := hv
        simp only [Lex.dstOf, List.getElem?_cons_zero, List.getElem?_cons_succ, Option.bind_some]
        have HQ := Lib.hid (may2_ok (EA.out.only0 ((Only.refl [] wA).drew.trans HR.out)))
        show wpList _ _ _ _ _ _
        go_wp2_with fail
        refine HQ.out.mono ?_
        clear HQ
        rintro e w9 ⟨rfl, ho⟩
        go_wp2
        exact ⟨rfl, ho, rfl⟩
      · injection ho with ho
        subst ho
        intro v hv
        obtain rfl : v = _ := hv
        intro v hv
        obtain rfl : v = _ := hv
        simp only [Lex.dstOf, List.getElem?_cons_zero, List.getElem?_cons_succ, Option.bind_some]
        show wpList _ _ _ _ _ _
        go_wp2
        exact ⟨by first | rfl | simp, Only.refl _ _, rfl⟩
      · injection ho with ho
        subst ho
        intro v hv
        obtain rfl : v = _ := hv
        simp only [Lex.dstOf, List.getElem?_cons_zero, List.getElem?_cons_succ, Option.bind_some]
        show wpList _ _ _ _ _ _
        go_wp2
        exact ⟨by first | rfl | simp, Only.refl _ _, rfl⟩
      · injection ho with ho
        subst ho
        intro v hv
        obtain rfl : v = _ := hv
        simp only [Lex.dstOf, List.getElem?_cons_zero, List.getElem?_cons_succ, Option.bind_some]
        have hbx := B6A.out.only ((Only.refl [] wA).drew.trans HR.out) (by simp)
        have x0 := hbx.cell 0
        have x1 := hbx.cell 1
        have x2 := hbx.cell 2
        have x3 := hbx.cell 3
        have x4 := hbx.cell 4
        simp at x0 x1 x2 x3 x4
        clear hbx
        show wpList _ _ _ _ _ _
        go_wp2
        exact ⟨by first | rfl | simp, Only.refl _ _, rfl⟩
      · injection ho with ho
        subst ho
        intro v hv
        obtain rfl : v = _ := hv
        intro v hv
        obtain rfl : v = _ := hv
        simp only [Lex.dstOf, List.getElem?_cons_zero, List.getElem?_cons_succ, Option.bind_some]
        have HQ := Lib.hid (vsize_ok (TA.out.vis.only0 ((Only.refl [] wA).drew.trans HR.out)))
        show wpList _ _ _ _ _ _
        go_wp2_with fail
        refine HQ.out.mono ?_
        clear HQ
        rintro e w9 ⟨rfl, ho⟩
        go_wp2
        exact ⟨rfl, ho, rfl⟩
      · injection ho with ho
        subst ho
        intro v hv
        obtain rfl : v = _ := hv
        simp only [Lex.dstOf, List.getElem?_cons_zero, List.getElem?_cons_succ, Option.bind_some]
        show wpList _ _ _ _ _ _
        go_wp2
        exact ⟨by first | rfl | simp, Only.refl _ _, rfl⟩
      · injection ho with ho
        subst ho
        intro v hv
        obtain rfl : v = _ := hv
        simp only [Lex.dstOf, List.getElem?_cons_zero, List.getElem?_cons_succ, Option.bind_some]
        show wpList _ _ _ _ _ _
        go_wp2
        exact ⟨by first | rfl | simp, Only.refl _ _, rfl⟩
      · injection ho with ho
        subst ho
        intro v hv
        obtain rfl : v = _ := hv
        intro v hv
        obtain rfl : v = _ := hv
        intro v hv
        obtain rfl : v = _ := hv
        simp only [Lex.dstOf, List.getElem?_cons_zero, List.getElem?_cons_succ, Option.bind_some]
        show wpList _ _ _ _ _ _
        go_wp2
        exact ⟨by first | rfl | simp, Only.refl _ _, rfl⟩
      · injection ho with ho
        subst ho
        intro v hv
        obtain rfl : v = _ := hv
        intro v hv
        obtain rfl : v = _ := hv
        simp only [Lex.dstOf, List.getElem?_cons_zero, List.getElem?_cons_succ, Option.bind_some]
        have hx : ∀ c u, ([iv c0, iv c1, fv c2, .string c3, .slice c4 c5 c6] : List Value)[c]? = some u → w8.cell? ⟨g, off + k * 5 + c, none⟩ = some u := fun c u hu => ((HOA.out.trans ((Only.refl [] wA).drew.trans HR.out)).cell (p := ⟨g, off + k * 5 + c, none⟩) HG.out (by simp)).trans (HX.out c u hu)
        have x0 := hx 0 (iv c0) rfl
        have x1 := hx 1 (iv c1) rfl
        have x2 := hx 2 (fv c2) rfl
        have x3 := hx 3 (.string c3) rfl
        have x4 := hx 4 (.slice c4 c5 c6) rfl
        rw [Nat.add_zero] at x0
        clear hx
        show wpList _ _ _ _ _ _
        go_wp2
        exact ⟨by first | rfl | simp, Only.refl _ _, rfl⟩
      · injection ho with ho
        subst ho
        intro v hv
        obtain rfl : v = _ := hv
        intro v hv
        obtain rfl : v = _ := hv
        simp only [Lex.dstOf, List.getElem?_cons_zero, List.getElem?_cons_succ, Option.bind_some]
        have HQ := Lib.hid (size2_ok (EA.out.only0 ((Only.refl [] wA).drew.trans HR.out)))
        show wpList _ _ _ _ _ _
        go_wp2_with fail
        refine HQ.out.mono ?_
        clear HQ
        rintro e w9 ⟨rfl, ho⟩
        go_wp2
        exact ⟨rfl, ho, rfl⟩
      · injection ho with ho
        subst ho
        intro v hv
        obtain rfl : v = _ := hv
        intro v hv
        obtain rfl : v = _ := hv
        intro v hv
        obtain rfl : v = _ := hv
        simp only [Lex.dstOf, List.getElem?_cons_zero, List.getElem?_cons_succ, Option.bind_some]
        show wpList _ _ _ _ _ _
        go_wp2
        exact ⟨by first | rfl | simp, Only.refl _ _, rfl⟩
      · injection ho with ho
        subst ho
        intro v hv
        obtain rfl : v = _ := hv
        intro v hv
        obtain rfl : v = _ := hv
        simp only [Lex.dstOf, List.getElem?_cons_zero, List.getElem?_cons_succ, Option.bind_some]
        show wpList _ _ _ _ _ _
        go_wp2
        exact ⟨by first | rfl | simp, Only.refl _ _, rfl⟩
      · injection ho with ho
        subst ho
        intro v hv
        obtain rfl : v = _ := hv
        simp only [Lex.dstOf, List.getElem?_cons_zero, List.getElem?_cons_succ, Option.bind_some]
        show wpList _ _ _ _ _ _
        go_wp2
        exact ⟨by first | rfl | simp, Only.refl _ _, rfl⟩
      · injection ho with ho
        subst ho
        intro v hv
        obtain rfl : v = _ := hv
        simp only [Lex.dstOf, List.getElem?_cons_zero, List.getElem?_cons_succ, Option.bind_some]
        show wpList _ _ _ _ _ _
        go_wp2
        exact ⟨by first | rfl | simp, Only.refl _ _, rfl⟩
      · injection ho with ho
        subst ho
        intro v hv
        obtain rfl : v = _ := hv
        simp only [Lex.dstOf, List.getElem?_cons_zero, List.getElem?_cons_succ, Option.bind_some]
        show wpList _ _ _ _ _ _
        go_wp2
        exact ⟨by first | rfl | simp, Only.refl _ _, rfl⟩
      · injection ho with ho
        subst ho
        intro v hv
        obtain rfl : v = _ := hv
        intro v hv
        obtain rfl : v = _ := hv
        intro v hv
        obtain rfl : v = _ := hv
        simp only [Lex.dstOf, List.getElem?_cons_zero, List.getElem?_cons_succ, Option.bind_some]
        show wpList _ _ _ _ _ _
        go_wp2
        exact ⟨by first | rfl | simp, Only.refl _ _, rfl⟩
      · injection ho with ho
        subst ho
        intro v hv
        obtain rfl : v = _ := hv
        intro v hv
        obtain rfl : v = _ := hv
        simp only [Lex.dstOf, List.getElem?_cons_zero, List.getElem?_cons_succ, Option.bind_some]
        show wpList _ _ _ _ _ _
        go_wp2
        exact ⟨by first | rfl | simp, Only.refl _ _, rfl⟩
      · injection ho with ho
        subst ho
        intro v hv
        obtain rfl : v = _ := hv
        simp only [Lex.dstOf, List.getElem?_cons_zero, List.getElem?_cons_succ, Option.bind_some]
        show wpList _ _ _ _ _ _
        go_wp2
        exact ⟨by first | rfl | simp, Only.refl _ _, rfl⟩
      · injection ho with ho
        subst ho
        intro v hv
        obtain rfl : v = _ := hv
        simp only [Lex.dstOf, List.getElem?_cons_zero, List.getElem?_cons_succ, Option.bind_some]
        have hbx := B7A.out.only ((Only.refl [] wA).drew.trans HR.out) (by simp)
        have x0 := hbx.cell 0
        have x1 := hbx.cell 1
        have x2 := hbx.cell 2
        have x3 := hbx.cell 3
        have x4 := hbx.cell 4
        simp at x0 x1 x2 x3 x4
        clear hbx
        show wpList _ _ _ _ _ _
        go_wp2
        exact ⟨by first | rfl | simp, Only.refl _ _, rfl⟩
      · injection ho with ho
        subst ho
        intro v hv
        obtain rfl : v = _ := hv
        simp only [Lex.dstOf, List.getElem?_cons_zero, List.getElem?_cons_succ, Option.bind_some]
        have hbx := B9A.out.only ((Only.refl [] wA).drew.trans HR.out) (by simp)
        have x0 := hbx.cell 0
        have x1 := hbx.cell 1
        have x2 := hbx.cell 2
        have x3 := hbx.cell 3
        have x4 := hbx.cell 4
        simp at x0 x1 x2 x3 x4
        clear hbx
        show wpList _ _ _ _ _ _
        go_wp2
        exact ⟨by first | rfl | simp, Only.refl _ _, rfl⟩
      · injection ho with ho
        subst ho
        intro v hv
        obtain rfl : v = _ := hv
        intro v hv
        obtain rfl : v = _ := hv
        intro v hv
        obtain rfl : v = _ := hv
        simp only [Lex.dstOf, List.getElem?_cons_zero, List.getElem?_cons_succ, Option.bind_some]
        have HQ := Lib.hid (eq_ok (cpV u) w8 _ _ _ _ _ (CA.out.vis.only0 ((Only.refl [] wA).drew.trans HR.out)) (DA.out.vis.only0 ((Only.refl [] wA).drew.trans HR.out)))
        rw [eqV_refl] at HQ
        show wpList _ _ _ _ _ _
        go_wp2_with fail
        refine HQ.out.mono ?_
        clear HQ
        rintro e w9 ⟨rfl, ho⟩
        go_wp2
        exact ⟨rfl, ho, rfl⟩
      · injection ho with ho
        subst ho
        intro v hv
        obtain rfl : v = _ := hv
        intro v hv
        obtain rfl : v = _ := hv
        simp only [Lex.dstOf, List.getElem?_cons_zero, List.getElem?_cons_succ, Option.bind_some]
        show wpList _ _ _ _ _ _
        go_wp2
        exact ⟨by first | rfl | simp, Only.refl _ _, rfl⟩
      · injection ho with ho
        subst ho
        intro v hv
        obtain rfl : v = _ := hv
        intro v hv
        obtain rfl : v = _ := hv
        simp only [Lex.dstOf, List.getElem?_cons_zero, List.getElem?_cons_succ, Option.bind_some]
        show wpList _ _ _ _ _ _
        go_wp2
        exact ⟨by first | rfl | simp, Only.refl _ _, rfl⟩
      · injection ho with ho
        subst ho
        intro v hv
        obtain rfl : v = _ := hv
        simp only [Lex.dstOf, List.getElem?_cons_zero, List.getElem?_cons_succ, Option.bind_some]
        show wpList _ _ _ _ _ _
        go_wp2
        exact ⟨by first | rfl | simp, Only.refl _ _, rfl⟩
      · injection ho with ho
        subst ho
        intro v hv
        obtain rfl : v = _ := hv
        simp only [Lex.dstOf, List.getElem?_cons_zero, List.getElem?_cons_succ, Option.bind_some]
        show wpList _ _ _ _ _ _
        go_wp2
        exact ⟨by first | rfl | simp, Only.refl _ _, rfl⟩
      · injection ho with ho
        subst ho
        intro v hv
        obtain rfl : v = _ := hv
        simp only [Lex.dstOf, List.getElem?_cons_zero, List.getElem?_cons_succ, Option.bind_some]
        show wpList _ _ _ _ _ _
        go_wp2
        exact ⟨by first | rfl | simp, Only.refl _ _, rfl⟩
      · injection ho with ho
        subst ho
        intro v hv
        obtain rfl : v = _ := hv
        intro v hv
        obtain rfl : v = _ := hv
        intro v hv
        obtain rfl : v = _ := hv
        simp only [Lex.dstOf, List.getElem?_cons_zero, List.getElem?_cons_succ, Option.bind_some]
        show wpList _ _ _ _ _ _
        go_wp2
        exact ⟨by first | rfl | simp, Only.refl _ _, rfl⟩
      · injection ho with ho
        subst ho
        intro v hv
        obtain rfl : v = _ := hv
        intro v hv
        obtain rfl : v = _ := hv
        simp only [Lex.dstOf, List.getElem?_cons_zero, List.getElem?_cons_succ, Option.bind_some]
        show wpList _ _ _ _ _ _
        go_wp2
        exact ⟨by first | rfl | simp, Only.refl _ _, rfl⟩
      · injection ho with ho
        subst ho
        intro v hv
        obtain rfl : v = _ := hv
        simp only [Lex.dstOf, List.getElem?_cons_zero, List.getElem?_cons_succ, Option.bind_some]
        show wpList _ _ _ _ _ _
        go_wp2
        exact ⟨by first | rfl | simp, Only.refl _ _, rfl⟩
      · injection ho with ho
        subst ho
        intro v hv
        obtain rfl : v = _ := hv
        simp only [Lex.dstOf, List.getElem?_cons_zero, List.getElem?_cons_succ, Option.bind_some]
        show wpList _ _ _ _ _ _
        go_wp2
        exact ⟨by first | rfl | simp, Only.refl _ _, rfl⟩
      · injection ho with ho
        subst ho
        intro v hv
        obtain rfl : v = _ := hv
        simp only [Lex.dstOf, List.getElem?_cons_zero, List.getElem?_cons_succ, Option.bind_some]
        show wpList _ _ _ _ _ _
        go_wp2
        exact ⟨by first | rfl | simp, Only.refl _ _, rfl⟩
      · injection ho with ho
        subst ho
        intro v hv
        obtain rfl : v = _ := hv
        intro v hv
        obtain rfl : v = _ := hv
        intro v hv
        obtain rfl : v = _ := hv
        simp only [Lex.dstOf, List.getElem?_cons_zero, List.getElem?_cons_succ, Option.bind_some]
        have HQ := Lib.hid (eqB_ok (bytes_of_sl (MA.out.only ((Only.refl [] wA).drew.trans HR.out) (fun _ _ => by simp)) (kyB_byte u)) (bytes_of_sl (NA.out.only ((Only.refl [] wA).drew.trans HR.out) (fun _ _ => by simp)) (kyB_byte u)))
        rw [decide_eq_true rfl] at HQ
        show wpList _ _ _ _ _ _
        go_wp2_with fail
        refine HQ.out.mono ?_
        clear HQ
        rintro e w9 ⟨rfl, ho⟩
        go_wp2
        exact ⟨rfl, ho, rfl⟩
      · injection ho with ho
        subst ho
        intro v hv
        obtain rfl : v = _ := hv
        intro v hv
        obtain rfl : v = _ := hv
        simp only [Lex.dstOf, List.getElem?_cons_zero, List.getElem?_cons_succ, Option.bind_some]
        show wpList _ _ _ _ _ _
        go_wp2
        exact ⟨by first | rfl | simp, Only.refl _ _, rfl⟩
      · injection ho with ho
        subst ho
        intro v hv
        obtain rfl : v = _ := hv
        intro v hv
        obtain rfl : v = _ := hv
        simp only [Lex.dstOf, List.getElem?_cons_zero, List.getElem?_cons_succ, Option.bind_some]
        show wpList _ _ _ _ _ _
        go_wp2
        exact ⟨by first | rfl | simp, Only.refl _ _, rfl⟩
      · injection ho with ho
        subst ho
        intro v hv
        obtain rfl : v = _ := hv
        simp only [Lex.dstOf, List.getElem?_cons_zero, List.getElem?_cons_succ, Option.bind_some]
        show wpList _ _ _ _ _ _
        go_wp2
        exact ⟨by first | rfl | simp, Only.refl _ _, rfl⟩
      · injection ho with ho
        subst ho
        intro v hv
        obtain rfl : v = _ := hv
        simp only [Lex.dstOf, List.getElem?_cons_zero, List.getElem?_cons_succ, Option.bind_some]
        have hbx := B6A.out.only ((Only.refl [] wA).drew.trans HR.out) (by simp)
        have x0 := hbx.cell 0
        have x1 := hbx.cell 1
        have x2 := hbx.cell 2
        have x3 := hbx.cell 3
        have x4 := hbx.cell 4
        simp at x0 x1 x2 x3 x4
        clear hbx
        show wpList _ _ _ _ _ _
        go_wp2
        exact ⟨by first | rfl | simp, Only.refl _ _, rfl⟩
      · injection ho with ho
        subst ho
        intro v hv
        obtain rfl : v = _ := hv
        simp only [Lex.dstOf, List.getElem?_cons_zero, List.getElem?_cons_succ, Option.bind_some]
        show wpList _ _ _ _ _ _
        go_wp2
        exact ⟨by first | rfl | simp, Only.refl _ _, rfl⟩
      · injection ho with ho
        subst ho
        intro v hv
        obtain rfl : v = _ := hv
        simp only [Lex.dstOf, List.getElem?_cons_zero, List.getElem?_cons_succ, Option.bind_some]
        show wpList _ _ _ _ _ _
        go_wp2
        exact ⟨by first | rfl | simp, Only.refl _ _, rfl⟩
      · injection ho with ho
        subst ho
        intro v hv
        obtain rfl : v = _ := hv
        intro v hv
        obtain rfl : v = _ := hv
        intro v hv
        obtain rfl : v = _ := hv
        simp only [Lex.dstOf, List.getElem?_cons_zero, List.getElem?_cons_succ, Option.bind_some]
        show wpList _ _ _ _ _ _
        go_wp2
        exact ⟨by first | rfl | simp, Only.refl _ _, rfl⟩
      · injection ho with ho
        subst ho
        intro v hv
        obtain rfl : v = _ := hv
        intro v hv
        obtain rfl : v = _ := hv
        simp only [Lex.dstOf, List.getElem?_cons_zero, List.getElem?_cons_succ, Option.bind_some]
        have hx : ∀ c u, ([iv c0, iv c1, fv c2, .string c3, .slice c4 c5 c6] : List Value)[c]? = some u → w8.cell? ⟨g, off + k * 5 + c, none⟩ = some u := fun c u hu => ((HOA.out.trans ((Only.refl [] wA).drew.trans HR.out)).cell (p := ⟨g, off + k * 5 + c, none⟩) HG.out (by simp)).trans (HX.out c u hu)
        have x0 := hx 0 (iv c0) rfl
        have x1 := hx 1 (iv c1) rfl
        have x2 := hx 2 (fv c2) rfl
        have x3 := hx 3 (.string c3) rfl
        have x4 := hx 4 (.slice c4 c5 c6) rfl
        rw [Nat.add_zero] at x0
        clear hx
        show wpList _ _ _ _ _ _
        go_wp2
        exact ⟨by first | rfl | simp, Only.refl _ _, rfl⟩
      · injection ho with ho
        subst ho
        intro v hv
        obtain rfl : v = _ := hv
        intro v hv
        obtain rfl : v = _ := hv
        intro v hv
        obtain rfl : v = _ := hv
        simp only [Lex.dstOf, List.getElem?_cons_zero, List.getElem?_cons_succ, Option.bind_some]
        have HQ := Lib.hid (kept_ok u w8 F _ _ _ (TA.out.keep fun g hg => ((Only.refl [] wA).drew.trans HR.out).block g (TA.out.lt g hg) (by simp)) (EA.out.only0 ((Only.refl [] wA).drew.trans HR.out)))
        show wpList _ _ _ _ _ _
        go_wp2_with fail
        refine HQ.out.mono ?_
        clear HQ
        rintro e w9 ⟨rfl, ho⟩
        go_wp2
        exact ⟨rfl, ho, rfl⟩
      · injection ho with ho
        subst ho
        intro v hv
        obtain rfl : v = _ := hv
        intro v hv
        obtain rfl : v = _ := hv
        simp only [Lex.dstOf, List.getElem?_cons_zero, List.getElem?_cons_succ, Option.bind_some]
        show wpList _ _ _ _ _ _
        go_wp2
        exact ⟨by first | rfl | simp, Only.refl _ _, rfl⟩
      · injection ho with ho
        subst ho
        intro v hv
        obtain rfl : v = _ := hv
        intro v hv
        obtain rfl : v = _ := hv
        simp only [Lex.dstOf, List.getElem?_cons_zero, List.getElem?_cons_succ, Option.bind_some]
        show wpList _ _ _ _ _ _
        go_wp2
        exact ⟨by first | rfl | simp, Only.refl _ _, rfl⟩
      · cases ho
    intro wB hR
    show ∀ v0, _ → ∀ v1, _ → ∀ v2, _ → ∀ v3, _ → ∀ v4, _ → ∀ v5, _ → ∀ v6, _ → ∀ v7, _ → ∀ v8, _ → ∀ v9, _ → ∀ v10, _ → ∀ v11, _ → ∀ v12, _ → ∀ v13, _ → ∀ v14, _ → ∀ v15, _ → ∀ v16, _ → ∀ v17, _ → ∀ v18, _ → ∀ v19, _ → ∀ v20, _ → ∀ v21, _ → ∀ v22, _ → ∀ v23, _ → ∀ v24, _ → ∀ v25, _ → ∀ v26, _ → ∀ v27, _ → ∀ v28, _ → ∀ v29, _ → ∀ v30, _ → ∀ v31, _ → ∀ v32, _ → ∀ v33, _ → ∀ v34, _ → ∀ v35, _ → ∀ v36, _ → ∀ v37, _ → ∀ v38, _ → ∀ v39, _ → ∀ v40, _ → ∀ v41, _ → ∀ v42, _ → ∀ v43, _ → ∀ v44, _ → ∀ v45, _ → ∀ v46, _ → ∀ v47, _ → ∀ v48, _ → Exit.then _ _ _ _ _
    intro v0 _ v1 _ v2 _ v3 _ v4 _ v5 _ v6 _ v7 _ v8 _ v9 _ v10 _ v11 _ v12 _ v13 _ v14 _ v15 _ v16 _ v17 _ v18 _ v19 _ v20 _ v21 _ v22 _ v23 _ v24 _ v25 _ v26 _ v27 _ v28 _ v29 _ v30 _ v31 _ v32 _ v33 _ v34 _ v35 _ v36 _ v37 _ v38 _ v39 _ v40 _ v41 _ v42 _ v43 _ v44 _ v45 _ v46 _ v47 _ v48 h48
    simp only [Lex.dstOf, List.getElem?_cons_zero, List.getElem?_cons_succ, Option.bind_some]
    obtain rfl : v48 = _ := h48
    simp only [Act.put, List.setIfInBounds_toArray, List.set_cons_succ, List.set_cons_zero]
    have sB := Lib.hid ((Only.refl [] wA).drew.trans hR)
    clear hR
    have TB := Lib.hid (TA.out.st (ST.of sB.out))
    have CB := Lib.hid (CA.out.st (ST.of sB.out))
    have MB := Lib.hid (MA.out.only sB.out (fun _ _ => by simp))
    have B6B := Lib.hid (B6A.out.only sB.out (by simp))
    have B7B := Lib.hid (B7A.out.only sB.out (by simp))
    have HOB := Lib.hid (HOA.out.trans sB.out)
    have s4B := Lib.hid (s4.out.trans (s5A.out.trans sB.out))
    have s2B := Lib.hid (s2.out.trans (s3.out.trans s4B.out))
    have s24 := Lib.hid (s2.out.trans (s3.out.trans s4.out))
    have s5B := Lib.hid (s6.out.trans (s7.out.trans (s8.out.trans (s9.out.trans (sA.out.trans sB.out)))))
    have s28 := Lib.hid (s24.out.trans s58.out)
    have s9B := Lib.hid (sA.out.trans sB.out)
    clear B9A B7A B6A DA EA MA CA TA B6 B7 B9 C7 HO6 HO9 NA
    have HQ := Lib.hid ((copy_ok TB.out.vis).mono fun _ _ h => copy_any h)
    have hbx := B6B.out
    have x0 := hbx.cell 0
    have x1 := hbx.cell 1
    have x2 := hbx.cell 2
    have x3 := hbx.cell 3
    have x4 := hbx.cell 4
    simp at x0 x1 x2 x3 x4
    clear hbx
    go_wp2_with fail
    refine HQ.out.mono ?_
    clear HQ x0 x1 x2 x3 x4
    rintro e wC ⟨cs4, S4, rfl, hvo, hnd, hge, ho⟩
    obtain ⟨t0, t1, t2, t3, t4, t5, t6, rfl⟩ := hvo.form
    have CC := Lib.hid hvo
    have NDC := Lib.hid hnd
    have GEC := Lib.hid hge
    have sC := Lib.hid ho
    clear hvo hnd hge ho
    go_wp2_with (refine wpList_store_blk rfl 33 (.tmp 15) (.tmp 125) rfl [iv t0, iv t1, fv t2, .string t3, .slice t4 t5 t6] rfl rfl (Blk.new _ _ _) (by kernel_rfl) (by simp) (by simp [Value.oneCell']) ?_)
    intro wD hB hO
    have sD := Lib.hid (((Only.refl [] wC).alloc _).trans' hO (fun i hi => .inr (by simp at hi; omega)))
    have BF := Lib.hid (show Blk wD wC.heap.size 33 #[iv t0, iv t1, fv t2, .string t3, .slice t4 t5 t6] from hB)
    clear hB hO
    have sBD := Lib.hid (sC.out.trans sD.out)
    have HQ := Lib.hid ((Key_ok (TB.out.vis.only0 sBD.out)).mono fun _ _ h => key_any h)
    have hbx := B6B.out.only sBD.out (by simp)
    have x0 := hbx.cell 0
    have x1 := hbx.cell 1
    have x2 := hbx.cell 2
    have x3 := hbx.cell 3
    have x4 := hbx.cell 4
    simp at x0 x1 x2 x3 x4
    clear hbx
    go_wp2_with fail
    refine HQ.out.mono ?_
    clear HQ x0 x1 x2 x3 x4
    rintro e wE ⟨oa, oc, rfl, hsl, hge, ho⟩
    have ME := Lib.hid hsl
    have GEE := Lib.hid hge
    have sE := Lib.hid ho
    clear hsl hge ho
    have sBE := Lib.hid (sBD.out.trans sE.out)
    have sCE := Lib.hid (sD.out.trans sE.out)
    have z1 := HV.out.only.size
    have z2 := s2B.out.size
    have z3 := s24.out.size
    have z4 := s5B.out.size
    have z5 := sBE.out.size
    have z6 := sCE.out.size
    have z7 := s28.out.size
    have z8 := s9B.out.size
    have z9 := s9.out.size
    have zA := sBD.out.size
    have ZZ := Lib.hid (And.intro z1 (And.intro z2 (And.intro z3 (And.intro z4 (And.intro z5 (And.intro z6 (And.intro z7 (And.intro z8 (And.intro z9 zA)))))))))
    clear z1 z2 z3 z4 z5 z6 z7 z8 z9 zA
    have VE := Lib.hid (HV.out.only0 (s2B.out.trans sBE.out))
    have B7E := Lib.hid (B7B.out.only sBE.out (by simp))
    have CE := Lib.hid (CB.out.st (ST.of sBE.out))
    have HQ := Lib.hid (VB.keepV (m' := wB.heap.size) VE.out (by have ⟨z1, z2, z3, z4, z5, z6, z7, z8, z9, zA⟩ := ZZ.out; omega) (by have ⟨z1, z2, z3, z4, z5, z6, z7, z8, z9, zA⟩ := ZZ.out; omega) CE.out ND5.out (fun g hg => by have ⟨z1, z2, z3, z4, z5, z6, z7, z8, z9, zA⟩ := ZZ.out; have := GE5.out g hg; omega) (fun g hg => by have ⟨z1, z2, z3, z4, z5, z6, z7, z8, z9, zA⟩ := ZZ.out; have := C5.out.lt g hg; omega) (cp_small u))
    have hbx := B7E.out
    have x0 := hbx.cell 0
    have x1 := hbx.cell 1
    have x2 := hbx.cell 2
    have x3 := hbx.cell 3
    have x4 := hbx.cell 4
    simp at x0 x1 x2 x3 x4
    clear hbx
    go_wp2_with fail
    refine HQ.out.mono ?_
    clear HQ x0 x1 x2 x3 x4
    rintro e wF ⟨rfl, hvb, hst, h5⟩
    have VF := Lib.hid hvb
    have tF := Lib.hid hst
    have k5 := Lib.hid h5
    clear hvb hst h5 VE B7E CE
    have BFF := Lib.hid (tF.out.blk (BF.out.only sE.out (by simp)))
    have CF := Lib.hid ((CC.out.st (ST.of sCE.out)).st tF.out)
    have HQ := Lib.hid (VB.keepV (m' := wE.heap.size) VF.out (by have ⟨z1, z2, z3, z4, z5, z6, z7, z8, z9, zA⟩ := ZZ.out; omega) (by have ⟨z1, z2, z3, z4, z5, z6, z7, z8, z9, zA⟩ := ZZ.out; omega) CF.out NDC.out (fun g hg => GEC.out g hg) (fun g hg => by have ⟨z1, z2, z3, z4, z5, z6, z7, z8, z9, zA⟩ := ZZ.out; have := CC.out.lt g hg; omega) (cp_small u))
    have hbx := BFF.out
    have x0 := hbx.cell 0
    have x1 := hbx.cell 1
    have x2 := hbx.cell 2
    have x3 := hbx.cell 3
    have x4 := hbx.cell 4
    simp at x0 x1 x2 x3 x4
    clear hbx
    go_wp2_with fail
    refine HQ.out.mono ?_
    clear HQ x0 x1 x2 x3 x4
    rintro e wG ⟨rfl, hvb, hst, h5⟩
    have VG := Lib.hid hvb
    have tG := Lib.hid hst
    have k6 := Lib.hid h5
    clear hvb hst h5 VF BFF CF
    have MG := Lib.hid (((MB.out.only sBE.out (fun _ _ => by simp)).keep fun g hg => k5.out g _ (Sl.blk (MB.out.only sBE.out (fun _ _ => by simp)) hg).choose_spec).keep fun g hg => k6.out g _ (Sl.blk ((MB.out.only sBE.out (fun _ _ => by simp)).keep fun g hg => k5.out g _ (Sl.blk (MB.out.only sBE.out (fun _ _ => by simp)) hg).choose_spec) hg).choose_spec)
    have OG := Lib.hid ((ME.out.keep fun g hg => k5.out g _ (Sl.blk ME.out hg).choose_spec).keep fun g hg => k6.out g _ (Sl.blk (ME.out.keep fun g hg => k5.out g _ (Sl.blk ME.out hg).choose_spec) hg).choose_spec)
    have HQ := Lib.hid (VB.keepK (m' := w9.heap.size) (w := wG.alloc (.cells #[.slice ma (kyB u).length mc, .slice oa (kyB u).length oc] 28)) (ls := .slice (some ⟨wG.heap.size, 0, none⟩) 2 2) VG.out (by have ⟨z1, z2, z3, z4, z5, z6, z7, z8, z9, zA⟩ := ZZ.out; omega) ((Only.refl _ _).alloc _) ⟨rfl, .inr ⟨_, 0, 2, _, rfl, Blk.new _ _ _, Nat.le_refl _, by decide, Nat.le_refl _, rfl⟩⟩ (fun g hg => by have h0 : wG.heap.size = g := (by simpa [Value.ownBlock] using hg); omega) (MG.out.alloc _) (fun g hg => by
          have ⟨z1, z2, z3, z4, z5, z6, z7, z8, z9, zA⟩ := ZZ.out
          have h1 := GE9.out g hg
          have h2 := M9.out.lt g hg
          omega) (kyB_len u) (OG.out.alloc _) (fun g hg => by
          have ⟨z1, z2, z3, z4, z5, z6, z7, z8, z9, zA⟩ := ZZ.out
          have h1 := GEE.out g hg
          omega) (by have ⟨z1, z2, z3, z4, z5, z6, z7, z8, z9, zA⟩ := ZZ.out; omega) (kyB_len u))
    go_wp2_with fail
    refine HQ.out.mono ?_
    clear HQ 
    rintro e wH ⟨rfl, hvb, hst⟩
    have VH := Lib.hid hvb
    have tH := Lib.hid ((ST.of sBE.out).trans (tF.out.trans (tG.out.trans ((ST.of ((Only.refl [] wG).alloc _)).trans hst))))
    clear hvb hst
    have TH := Lib.hid (TB.out.st tH.out)
    have B6H := Lib.hid (tH.out.blk B6B.out)
    have HOH := Lib.hid (HW.out.trans VH.out.only)
    clear VG MG OG ME MB CB TB B6B B7B CC C5 M9 T3 BF s2 s3 s4 s5 s6 s7 s8 s9 sA sB sC sD sE s58 s5A s4B s2B s24 s5B s28 s9B sBD sBE sCE ZZ
    go_wp2
    go_loopw [19] (fun z wr => ∃ j : Nat, j ≤ l.length ∧ z = .int .i64 j ∧ Hid (Only [] wH wr)) (fun z _ => l.length - (intOf z).toNat)
    case atStart => exact ⟨0, Nat.zero_le _, rfl, Lib.hid (Only.refl _ _)⟩
    case round =>
      obtain ⟨j, hj, rfl, HJ⟩ := hrel
      by_cases hjl : j < l.length
      case neg =>
        have hjz : ¬ (j : Int) < (l.length : Int) := by omega
        have HVJ := Lib.hid (VH.out.only0 HJ.out).now
        go_wp2
        go_roundw
        case measure => simp [intOf]; omega
        case rel => exact ⟨k + 1, by omega, by go_num, HVJ⟩
      have hjz : (j : Int) < (l.length : Int) := by omega
      by_cases hj25 : j < 25
      case neg =>
        have hj25z : ¬ (j : Int) < 25 := by omega
        have HVJ := Lib.hid (VH.out.only0 HJ.out).now
        go_wp2
        go_roundw
        case measure => simp [intOf]; omega
        case rel => exact ⟨k + 1, by omega, by go_num, HVJ⟩
      have hj25z : (j : Int) < 25 := by omega
      obtain ⟨y, hE⟩ : ∃ y, VIs w F y (css j) := ⟨_, HI.out j hjl⟩
      obtain ⟨d0, d1, d2, d3, d4, d5, d6, hcs⟩ := hE.five
      rw [hcs] at hE
      have HY := Lib.hid hE
      have HXJ := Lib.hid (show ∀ c x, ([iv d0, iv d1, fv d2, .string d3, .slice d4 d5 d6] : List Value)[c]? = some x → w.cell? ⟨g, off + j * 5 + c, none⟩ = some x from fun c x hx => HCC.out j c x hjl (by rw [hcs]; exact hx))
      clear hE hcs
      have HOJ := Lib.hid (HOH.out.trans HJ.out)
      have TJ := Lib.hid (TH.out.st (ST.of HJ.out))
      have B6J := Lib.hid (B6H.out.only HJ.out (by simp))
      have EJ := Lib.hid (HE.out.only0 HOJ.out)
      have YJ := Lib.hid (HY.out.only0 HOJ.out)
      cases hly : y.isLight
      · go_wp2
        refine Lex.wp_region_each (by kernel_rfl) [[], [], [0, 1], [2], [3], [4], [5], [5], [5], [5, 7, 8], [5, 9], [5, 6, 10], [5], [5], [5, 12, 13], [5, 14], [5], [5], [5, 16, 17], [5, 18], [5, 15, 19], [5, 11, 20], [5, 21], [22], [22], [22], [22, 24, 25], [22, 26], [22, 23, 27], [22], [22], [22, 29, 30], [22, 31], [22], [22], [22, 33, 34], [22, 35], [22, 32, 36], [22, 28, 37], [5, 22, 38], [5, 39]] (by kernel_rfl) (by rfl) (fun a b => Only [] a b) (Only.refl _) (fun _ _ _ => Only.trans)
          (fun q v _ => match q with
            | 0 => v = .slice (some ⟨g, off, none⟩) l.length cap
            | 1 => v = .int .i64 j
            | 2 => v = .pointer (some ⟨g, off + j * 5, none⟩)
            | 3 => v = .agg #[iv d0, iv d1, fv d2, .string d3, .slice d4 d5 d6]
            | 4 => v = .bool false
            | 5 => v = .bool false
            | 6 => v = .tuple #[]
            | 7 => v = .tuple #[]
            | 8 => v = .tuple #[]
            | 9 => v = .tuple #[]
            | 10 => v = .tuple #[]
            | 11 => v = .tuple #[]
            | 12 => v = .tuple #[]
            | 13 => v = .tuple #[]
            | 14 => v = .tuple #[]
            | 15 => v = .tuple #[]
            | 16 => v = .tuple #[]
            | 17 => v = .tuple #[]
            | 18 => v = .tuple #[]
            | 19 => v = .tuple #[]
            | 20 => v = .tuple #[]
            | 21 => v = .tuple #[]
            | 22 => v = .tuple #[]
            | 23 => v = .tuple #[]
            | 24 => v = .tuple #[]
            | 25 => v = .tuple #[]
            | 26 => v = .tuple #[]
            | 27 => v = .tuple #[]
            | 28 => v = .tuple #[]
            | 29 => v = .tuple #[]
            | 30 => v = .tuple #[]
            | 31 => v = .tuple #[]
            | 32 => v = .tuple #[]
            | 33 => v = .tuple #[]
            | 34 => v = .tuple #[]
            | 35 => v = .tuple #[]
            | 36 => v = .tuple #[]
            | 37 => v = .tuple #[]
            | 38 => v = .tuple #[]
            | 39 => v = .tuple #[]
            | _ => v = .bool false) (fun _ _ _ _ h _ => h) ?_ ?_
        · intro j o ho w8 hR
          have HR := Lib.hid hR
          clear hR
          rcases j with _ | _ | _ | _ | _ | _ | _ | _ | _ | _ | _ | _ | _ | _ | _ | _ | _ | _ | _ | _ | _ | _ | _ | _ | _ | _ | _ | _ | _ | _ | _ | _ | _ | _ | _ | _ | _ | _ | _ | _ | _ | j
          · injection ho with ho
            subst ho
            show wpList _ _ _ _ _ _
            go_wp2
            exact ⟨by first | rfl | simp, Only.refl _ _, rfl⟩
          · injection ho with ho
            subst ho
            show wpList _ _ _ _ _ _
            go_wp2
            exact ⟨by first | rfl | simp, Only.refl _ _, rfl⟩
          · injection ho with ho
            subst ho
            intro v hv
            obtain rfl : v = _ := hv
            intro v hv
            obtain rfl : v = _ := hv
            simp only [Lex.dstOf, List.getElem?_cons_zero, List.getElem?_cons_succ, Option.bind_some]
            show wpList _ _ _ _ _ _
            go_wp2
            exact ⟨by first | rfl | simp, Only.refl _ _, rfl⟩
          · injection ho with ho
            subst ho
            intro v hv
            obtain rfl : v = _ := hv
            simp only [Lex.dstOf, List.getElem?_cons_zero, List.getElem?_cons_succ, Option.bind_some]
            have hx : ∀ c u, ([iv d0, iv d1, fv d2, .string d3, .slice d4 d5 d6] : List Value)[c]? = some u → w8.cell? ⟨g, off + j * 5 + c, none⟩ = some u := fun c u hu => ((HOJ.out.trans ((Only.refl [] wr).drew.trans HR.out)).cell (p := ⟨g, off + j * 5 + c, none⟩) HG.out (by simp)).trans (HXJ.out c u hu)
            have x0 := hx 0 (iv d0) rfl
            have x1 := hx 1 (iv d1) rfl
            have x2 := hx 2 (fv d2) rfl
            have x3 := hx 3 (.string d3) rfl
            have x4 := hx 4 (.slice d4 d5 d6) rfl
            rw [Nat.add_zero] at x0
            clear hx
            show wpList _ _ _ _ _ _
            go_wp2
            exact ⟨by first | rfl | simp, Only.refl _ _, rfl⟩
          · injection ho with ho
            subst ho
            intro v hv
            obtain rfl : v = _ := hv
            simp only [Lex.dstOf, List.getElem?_cons_zero, List.getElem?_cons_succ, Option.bind_some]
            have HQ := Lib.hid (Light_ok (YJ.out.only0 ((Only.refl [] wr).drew.trans HR.out)))
            rw [hly] at HQ
            show wpList _ _ _ _ _ _
            go_wp2_with fail
            refine HQ.out.mono ?_
            clear HQ
            rintro e w9 ⟨rfl, ho⟩
            go_wp2
            exact ⟨rfl, ho, rfl⟩
          · injection ho with ho
            subst ho
            intro v hv
            obtain rfl : v = _ := hv
            simp only [Lex.dstOf, List.getElem?_cons_zero, List.getElem?_cons_succ, Option.bind_some]
            show wpList _ _ _ _ _ _
            go_wp2
            exact ⟨by first | rfl | simp, Only.refl _ _, rfl⟩
          · injection ho with ho
            subst ho
            intro v hv
            obtain rfl : v = _ := hv
            simp only [Lex.dstOf, List.getElem?_cons_zero, List.getElem?_cons_succ, Option.bind_some]
            show wpList _ _ _ _ _ _
            go_wp2
            exact ⟨by first | rfl | simp, Only.refl _ _, rfl⟩
          · injection ho with ho
            subst ho
            intro v hv
            obtain rfl : v = _ := hv
            simp only [Lex.dstOf, List.getElem?_cons_zero, List.getElem?_cons_succ, Option.bind_some]
            show wpList _ _ _ _ _ _
            go_wp2
            exact ⟨by first | rfl | simp, Only.refl _ _, rfl⟩
          · injection ho with ho
            subst ho
            intro v hv
            obtain rfl : v = _ := hv
            simp only [Lex.dstOf, List.getElem?_cons_zero, List.getElem?_cons_succ, Option.bind_some]
            show wpList _ _ _ _ _ _
            go_wp2
            exact ⟨by first | rfl | simp, Only.refl _ _, rfl⟩
          · injection ho with ho
            subst ho
            intro v hv
            obtain rfl : v = _ := hv
            intro v hv
            obtain rfl : v = _ := hv
            intro v hv
            obtain rfl : v = _ := hv
            simp only [Lex.dstOf, List.getElem?_cons_zero, List.getElem?_cons_succ, Option.bind_some]
            show wpList _ _ _ _ _ _
            go_wp2
            exact ⟨by first | rfl | simp, Only.refl _ _, rfl⟩
          · injection ho with ho
            subst ho
            intro v hv
            obtain rfl : v = _ := hv
            intro v hv
            obtain rfl : v = _ := hv
            simp only [Lex.dstOf, List.getElem?_cons_zero, List.getElem?_cons_succ, Option.bind_some]
            show wpList _ _ _ _ _ _
            go_wp2
            exact ⟨by first | rfl | simp, Only.refl _ _, rfl⟩
          · injection ho with ho
            subst ho
            intro v hv
            obtain rfl : v = _ := hv
            intro v hv
            obtain rfl : v = _ := hv
            intro v hv
            obtain rfl : v = _ := hv
            simp only [Lex.dstOf, List.getElem?_cons_zero, List.getElem?_cons_succ, Option.bind_some]
            show wpList _ _ _ _ _ _
            go_wp2
            exact ⟨by first | rfl | simp, Only.refl _ _, rfl⟩
          · injection ho with ho
            subst ho
            intro v hv
            obtain rfl : v = _ := hv
            simp only [Lex.dstOf, List.getElem?_cons_zero, List.getElem?_cons_succ, Option.bind_some]
            show wpList _ _ _ _ _ _
            go_wp2
            exact ⟨by first | rfl | simp, Only.refl _ _, rfl⟩
          · injection ho with ho
            subst ho
            intro v hv
            obtain rfl : v = _ := hv
            simp only [Lex.dstOf, List.getElem?_cons_zero, List.getElem?_cons_succ, Option.bind_some]
            show wpList _ _ _ _ _ _
            go_wp2
            exact ⟨by first | rfl | simp, Only.refl _ _, rfl⟩
          · injection ho with ho
            subst ho
            intro v hv
            obtain rfl : v = _ := hv
            intro v hv
            obtain rfl : v = _ := hv
            intro v hv
            obtain rfl : v = _ := hv
            simp only [Lex.dstOf, List.getElem?_cons_zero, List.getElem?_cons_succ, Option.bind_some]
            show wpList _ _ _ _ _ _
            go_wp2
            exact ⟨by first | rfl | simp, Only.refl _ _, rfl⟩
          · injection ho with ho
            subst ho
            intro v hv
            obtain rfl : v = _ := hv
            intro v hv
            obtain rfl : v = _ := hv
            simp only [Lex.dstOf, List.getElem?_cons_zero, List.getElem?_cons_succ, Option.bind_some]
            show wpList _ _ _ _ _ _
            go_wp2
            exact ⟨by first | rfl | simp, Only.refl _ _, rfl⟩
          · injection ho with ho
            subst ho
            intro v hv
            obtain rfl : v = _ := hv
            simp only [Lex.dstOf, List.getElem?_cons_zero, List.getElem?_cons_succ, Option.bind_some]
            show wpList _ _ _ _ _ _
            go_wp2
            exact ⟨by first | rfl | simp, Only.refl _ _, rfl⟩
          · injection ho with ho
            subst ho
            intro v hv
            obtain rfl : v = _ := hv
            simp only [Lex.dstOf, List.getElem?_cons_zero, List.getElem?_cons_succ, Option.bind_some]
            show wpList _ _ _ _ _ _
            go_wp2
            exact ⟨by first | rfl | simp, Only.refl _ _, rfl⟩
          · injection ho with ho
            subst ho
            intro v hv
            obtain rfl : v = _ := hv
            intro v hv
            obtain rfl : v = _ := hv
            intro v hv
            obtain rfl : v = _ := hv
            simp only [Lex.dstOf, List.getElem?_cons_zero, List.getElem?_cons_succ, Option.bind_some]
            show wpList _ _ _ _ _ _
            go_wp2
            exact ⟨by first | rfl | simp, Only.refl _ _, rfl⟩
          · injection ho with ho
            subst ho
            intro v hv
            obtain rfl : v = _ := hv
            intro v hv
            obtain rfl : v = _ := hv
            simp only [Lex.dstOf, List.getElem?_cons_zero, List.getElem?_cons_succ, Option.bind_some]
            show wpList _ _ _ _ _ _
            go_wp2
            exact ⟨by first | rfl | simp, Only.refl _ _, rfl⟩
          · injection ho with ho
            subst ho
            intro v hv
            obtain rfl : v = _ := hv
            intro v hv
            obtain rfl : v = _ := hv
            intro v hv
            obtain rfl : v = _ := hv
            simp only [Lex.dstOf, List.getElem?_cons_zero, List.getElem?_cons_succ, Option.bind_some]
            show wpList _ _ _ _ _ _
            go_wp2
            exact ⟨by first | rfl | simp, Only.refl _ _, rfl⟩
          · injection ho with ho
            subst ho
            intro v hv
            obtain rfl : v = _ := hv
            intro v hv
            obtain rfl : v = _ := hv
            intro v hv
            obtain rfl : v = _ := hv
            simp only [Lex.dstOf, List.getElem?_cons_zero, List.getElem?_cons_succ, Option.bind_some]
            show wpList _ _ _ _ _ _
            go_wp2
            exact ⟨by first | rfl | simp, Only.refl _ _, rfl⟩
          · injection ho with ho
            subst ho
            intro v hv
            obtain rfl : v = _ := hv
            intro v hv
            obtain rfl : v = _ := hv
            simp only [Lex.dstOf, List.getElem?_cons_zero, List.getElem?_cons_succ, Option.bind_some]
            show wpList _ _ _ _ _ _
            go_wp2
            exact ⟨by first | rfl | simp, Only.refl _ _, rfl⟩
          · injection ho with ho
            subst ho
            intro v hv
            obtain rfl : v = _ := hv
            simp only [Lex.dstOf, List.getElem?_cons_zero, List.getElem?_cons_succ, Option.bind_some]
            show wpList _ _ _ _ _ _
            go_wp2
            exact ⟨by first | rfl | simp, Only.refl _ _, rfl⟩
          · injection ho with ho
            subst ho
            intro v hv
            obtain rfl : v = _ := hv
            simp only [Lex.dstOf, List.getElem?_cons_zero, List.getElem?_cons_succ, Option.bind_some]
            show wpList _ _ _ _ _ _
            go_wp2
            exact ⟨by first | rfl | simp, Only.refl _ _, rfl⟩
          · injection ho with ho
            subst ho
            intro v hv
            obtain rfl : v = _ := hv
            simp only [Lex.dstOf, List.getElem?_cons_zero, List.getElem?_cons_succ, Option.bind_some]
            show wpList _ _ _ _ _ _
            go_wp2
            exact ⟨by first | rfl | simp, Only.refl _ _, rfl⟩
          · injection ho with ho
            subst ho
            intro v hv
            obtain rfl : v = _ := hv
            intro v hv
            obtain rfl : v = _ := hv
            intro v hv
            obtain rfl : v = _ := hv
            simp only [Lex.dstOf, List.getElem?_cons_zero, List.getElem?_cons_succ, Option.bind_some]
            show wpList _ _ _ _ _ _
            go_wp2
            exact ⟨by first | rfl | simp, Only.refl _ _, rfl⟩
          · injection ho with ho
            subst ho
            intro v hv
            obtain rfl : v = _ := hv
            intro v hv
            obtain rfl : v = _ := hv
            simp only [Lex.dstOf, List.getElem?_cons_zero, List.getElem?_cons_succ, Option.bind_some]
            show wpList _ _ _ _ _ _
            go_wp2
            exact ⟨by first | rfl | simp, Only.refl _ _, rfl⟩
          · injection ho with ho
            subst ho
            intro v hv
            obtain rfl : v = _ := hv
            intro v hv
            obtain rfl : v = _ := hv
            intro v hv
            obtain rfl : v = _ := hv
            simp only [Lex.dstOf, List.getElem?_cons_zero, List.getElem?_cons_succ, Option.bind_some]
            show wpList _ _ _ _ _ _
            go_wp2
            exact ⟨by first | rfl | simp, Only.refl _ _, rfl⟩
          · injection ho with ho
            subst ho
            intro v hv
            obtain rfl : v = _ := hv
            simp only [Lex.dstOf, List.getElem?_cons_zero, List.getElem?_cons_succ, Option.bind_some]
            show wpList _ _ _ _ _ _
            go_wp2
            exact ⟨by first | rfl | simp, Only.refl _ _, rfl⟩
          · injection ho with ho
            subst ho
            intro v hv
            obtain rfl : v = _ := hv
            simp only [Lex.dstOf, List.getElem?_cons_zero, List.getElem?_cons_succ, Option.bind_some]
            show wpList _ _ _ _ _ _
            go_wp2
            exact ⟨by first | rfl | simp, Only.refl _ _, rfl⟩
          · injection ho with ho
            subst ho
            intro v hv
            obtain rfl : v = _ := hv
            intro v hv
            obtain rfl : v = _ := hv
            intro v hv
            obtain rfl : v = _ := hv
            simp only [Lex.dstOf, List.getElem?_cons_zero, List.getElem?_cons_succ, Option.bind_some]
            show wpList _ _ _ _ _ _
            go_wp2
            exact ⟨by first | rfl | simp, Only.refl _ _, rfl⟩
          · injection ho with ho
            subst ho
            intro v hv
            obtain rfl : v = _ := hv
            intro v hv
            obtain rfl : v = _ := hv
            simp only [Lex.dstOf, List.getElem?_cons_zero, List.getElem?_cons_succ, Option.bind_some]
            show wpList _ _ _ _ _ _
            go_wp2
            exact ⟨by first | rfl | simp, Only.refl _ _, rfl⟩
          · injection ho with ho
            subst ho
            intro v hv
            obtain rfl : v = _ := hv
            simp only [Lex.dstOf, List.getElem?_cons_zero, List.getElem?_cons_succ, Option.bind_some]
            show wpList _ _ _ _ _ _
            go_wp2
            exact ⟨by first | rfl | simp, Only.refl _ _, rfl⟩
          · injection ho with ho
            subst ho
            intro v hv
            obtain rfl : v = _ := hv
            simp only [Lex.dstOf, List.getElem?_cons_zero, List.getElem?_cons_succ, Option.bind_some]
            show wpList _ _ _ _ _ _
            go_wp2
            exact ⟨by first | rfl | simp, Only.refl _ _, rfl⟩
          · injection ho with ho
            subst ho
            intro v hv
            obtain rfl : v = _ := hv
            intro v hv
            obtain rfl : v = _ := hv
            intro v hv
            obtain rfl : v = _ := hv
            simp only [Lex.dstOf, List.getElem?_cons_zero, List.getElem?_cons_succ, Option.bind_some]
            show wpList _ _ _ _ _ _
            go_wp2
            exact ⟨by first | rfl | simp, Only.refl _ _, rfl⟩
          · injection ho with ho
            subst ho
            intro v hv
            obtain rfl : v = _ := hv
            intro v hv
            obtain rfl : v = _ := hv
            simp only [Lex.dstOf, List.getElem?_cons_zero, List.getElem?_cons_succ, Option.bind_some]
            show wpList _ _ _ _ _ _
            go_wp2
            exact ⟨by first | rfl | simp, Only.refl _ _, rfl⟩
          · injection ho with ho
            subst ho
            intro v hv
            obtain rfl : v = _ := hv
            intro v hv
            obtain rfl : v = _ := hv
            intro v hv
            obtain rfl : v = _ := hv
            simp only [Lex.dstOf, List.getElem?_cons_zero, List.getElem?_cons_succ, Option.bind_some]
            show wpList _ _ _ _ _ _
            go_wp2
            exact ⟨by first | rfl | simp, Only.refl _ _, rfl⟩
          · injection ho with ho
            subst ho
            intro v hv
            obtain rfl : v = _ := hv
            intro v hv
            obtain rfl : v = _ := hv
            intro v hv
            obtain rfl : v = _ := hv
            simp only [Lex.dstOf, List.getElem?_cons_zero, List.getElem?_cons_succ, Option.bind_some]
            show wpList _ _ _ _ _ _
            go_wp2
            exact ⟨by first | rfl | simp, Only.refl _ _, rfl⟩
          · injection ho with ho
            subst ho
            intro v hv
            obtain rfl : v = _ := hv
            intro v hv
            obtain rfl : v = _ := hv
            intro v hv
            obtain rfl : v = _ := hv
            simp only [Lex.dstOf, List.getElem?_cons_zero, List.getElem?_cons_succ, Option.bind_some]
            show wpList _ _ _ _ _ _
            go_wp2
            exact ⟨by first | rfl | simp, Only.refl _ _, rfl⟩
          · injection ho with ho
            subst ho
            intro v hv
            obtain rfl : v = _ := hv
            intro v hv
            obtain rfl : v = _ := hv
            simp only [Lex.dstOf, List.getElem?_cons_zero, List.getElem?_cons_succ, Option.bind_some]
            show wpList _ _ _ _ _ _
            go_wp2
            exact ⟨by first | rfl | simp, Only.refl _ _, rfl⟩
          · cases ho
        intro w8 hR
        show ∀ v0, _ → ∀ v1, _ → ∀ v2, _ → ∀ v3, _ → ∀ v4, _ → ∀ v5, _ → ∀ v6, _ → ∀ v7, _ → ∀ v8, _ → ∀ v9, _ → ∀ v10, _ → ∀ v11, _ → ∀ v12, _ → ∀ v13, _ → ∀ v14, _ → ∀ v15, _ → ∀ v16, _ → ∀ v17, _ → ∀ v18, _ → ∀ v19, _ → ∀ v20, _ → ∀ v21, _ → ∀ v22, _ → ∀ v23, _ → ∀ v24, _ → ∀ v25, _ → ∀ v26, _ → ∀ v27, _ → ∀ v28, _ → ∀ v29, _ → ∀ v30, _ → ∀ v31, _ → ∀ v32, _ → ∀ v33, _ → ∀ v34, _ → ∀ v35, _ → ∀ v36, _ → ∀ v37, _ → ∀ v38, _ → ∀ v39, _ → ∀ v40, _ → Exit.then _ _ _ _ _
        intro v0 _ v1 _ v2 _ v3 _ v4 _ v5 _ v6 _ v7 _ v8 _ v9 _ v10 _ v11 _ v12 _ v13 _ v14 _ v15 _ v16 _ v17 _ v18 _ v19 _ v20 _ v21 _ v22 _ v23 _ v24 _ v25 _ v26 _ v27 _ v28 _ v29 _ v30 _ v31 _ v32 _ v33 _ v34 _ v35 _ v36 _ v37 _ v38 _ v39 _ v40 h40
        simp only [Lex.dstOf, List.getElem?_cons_zero, List.getElem?_cons_succ, Option.bind_some]
        obtain rfl : v40 = _ := h40
        simp only [Act.put, List.setIfInBounds_toArray, List.set_cons_succ, List.set_cons_zero]
        have HJ2 := Lib.hid (HJ.out.trans ((Only.refl [] wr).drew.trans hR))
        clear hR
        go_wp2
        go_roundw
        case measure => simp [intOf]; omega
        case rel => exact ⟨j + 1, by omega, by go_num, HJ2⟩
      · go_wp2
        refine Lex.wp_region_each (by kernel_rfl) [[], [], [0, 1], [2], [3], [4], [5], [5], [5], [5, 7, 8], [5, 9], [5, 6, 10], [5], [5], [5, 12, 13], [5, 14], [5], [5], [5, 16, 17], [5, 18], [5, 15, 19], [5, 11, 20], [5, 21], [22], [22], [22], [22, 24, 25], [22, 26], [22, 23, 27], [22], [22], [22, 29, 30], [22, 31], [22], [22], [22, 33, 34], [22, 35], [22, 32, 36], [22, 28, 37], [5, 22, 38], [5, 39]] (by kernel_rfl) (by rfl) (fun a b => Only [] a b) (Only.refl _) (fun _ _ _ => Only.trans)
          (fun q v _ => match q with
            | 0 => v = .slice (some ⟨g, off, none⟩) l.length cap
            | 1 => v = .int .i64 j
            | 2 => v = .pointer (some ⟨g, off + j * 5, none⟩)
            | 3 => v = .agg #[iv d0, iv d1, fv d2, .string d3, .slice d4 d5 d6]
            | 4 => v = .bool true
            | 5 => v = .bool true
            | 6 => v = .agg #[iv p0, iv p1, fv p2, .string p3, .slice p4 p5 p6]
            | 7 => v = .slice (some ⟨g, off, none⟩) l.length cap
            | 8 => v = .int .i64 j
            | 9 => v = .pointer (some ⟨g, off + j * 5, none⟩)
            | 10 => v = .agg #[iv d0, iv d1, fv d2, .string d3, .slice d4 d5 d6]
            | 11 => v = iv (u.cmp y)
            | 12 => v = .slice (some ⟨g, off, none⟩) l.length cap
            | 13 => v = .int .i64 k
            | 14 => v = .pointer (some ⟨g, off + k * 5, none⟩)
            | 15 => v = .agg #[iv c0, iv c1, fv c2, .string c3, .slice c4 c5 c6]
            | 16 => v = .slice (some ⟨g, off, none⟩) l.length cap
            | 17 => v = .int .i64 j
            | 18 => v = .pointer (some ⟨g, off + j * 5, none⟩)
            | 19 => v = .agg #[iv d0, iv d1, fv d2, .string d3, .slice d4 d5 d6]
            | 20 => v = iv (u.cmp y)
            | 21 => v = .bool false
            | 22 => v = .bool false
            | 23 => v = .agg #[iv p0, iv p1, fv p2, .string p3, .slice p4 p5 p6]
            | 24 => v = .slice (some ⟨g, off, none⟩) l.length cap
            | 25 => v = .int .i64 j
            | 26 => v = .pointer (some ⟨g, off + j * 5, none⟩)
            | 27 => v = .agg #[iv d0, iv d1, fv d2, .string d3, .slice d4 d5 d6]
            | 28 => v = .bool (u.same y)
            | 29 => v = .slice (some ⟨g, off, none⟩) l.length cap
            | 30 => v = .int .i64 k
            | 31 => v = .pointer (some ⟨g, off + k * 5, none⟩)
            | 32 => v = .agg #[iv c0, iv c1, fv c2, .string c3, .slice c4 c5 c6]
            | 33 => v = .slice (some ⟨g, off, none⟩) l.length cap
            | 34 => v = .int .i64 j
            | 35 => v = .pointer (some ⟨g, off + j * 5, none⟩)
            | 36 => v = .agg #[iv d0, iv d1, fv d2, .string d3, .slice d4 d5 d6]
            | 37 => v = .bool (u.same y)
            | 38 => v = .bool false
            | 39 => v = .bool false
            | _ => v = .bool false) (fun _ _ _ _ h _ => h) ?_ ?_
        · intro j o ho w8 hR
          have HR := Lib.hid hR
          clear hR
          rcases j with _ | _ | _ | _ | _ | _ | _ | _ | _ | _ | _ | _ | _ | _ | _ | _ | _ | _ | _ | _ | _ | _ | _ | _ | _ | _ | _ | _ | _ | _ | _ | _ | _ | _ | _ | _ | _ | _ | _ | _ | _ | j
          · injection ho with ho
            subst ho
            show wpList _ _ _ _ _ _
            go_wp2
            exact ⟨by first | rfl | simp, Only.refl _ _, rfl⟩
          · injection ho with ho
            subst ho
            show wpList _ _ _ _ _ _
            go_wp2
            exact ⟨by first | rfl | simp, Only.refl _ _, rfl⟩
          · injection ho with ho
            subst ho
            intro v hv
            obtain rfl : v = _ := hv
            intro v hv
            obtain rfl : v = _ := hv
            simp only [Lex.dstOf, List.getElem?_cons_zero, List.getElem?_cons_succ, Option.bind_some]
            show wpList _ _ _ _ _ _
            go_wp2
            exact ⟨by first | rfl | simp, Only.refl _ _, rfl⟩
          · injection ho with ho
            subst ho
            intro v hv
            obtain rfl : v = _ := hv
            simp only [Lex.dstOf, List.getElem?_cons_zero, List.getElem?_cons_succ, Option.bind_some]
            have hx : ∀ c u, ([iv d0, iv d1, fv d2, .string d3, .slice d4 d5 d6] : List Value)[c]? = some u → w8.cell? ⟨g, off + j * 5 + c, none⟩ = some u := fun c u hu => ((HOJ.out.trans ((Only.refl [] wr).drew.trans HR.out)).cell (p := ⟨g, off + j * 5 + c, none⟩) HG.out (by simp)).trans (HXJ.out c u hu)
            have x0 := hx 0 (iv d0) rfl
            have x1 := hx 1 (iv d1) rfl
            have x2 := hx 2 (fv d2) rfl
            have x3 := hx 3 (.string d3) rfl
            have x4 := hx 4 (.slice d4 d5 d6) rfl
            rw [Nat.add_zero] at x0
            clear hx
            show wpList _ _ _ _ _ _
            go_wp2
            exact ⟨by first | rfl | simp, Only.refl _ _, rfl⟩
          · injection ho with ho
            subst ho
            intro v hv
            obtain rfl : v = _ := hv
            simp only [Lex.dstOf, List.getElem?_cons_zero, List.getElem?_cons_succ, Option.bind_some]
            have HQ := Lib.hid (Light_ok (YJ.out.only0 ((Only.refl [] wr).drew.trans HR.out)))
            rw [hly] at HQ
            show wpList _ _ _ _ _ _
            go_wp2_with fail
            refine HQ.out.mono ?_
            clear HQ
            rintro e w9 ⟨rfl, ho⟩
            go_wp2
            exact ⟨rfl, ho, rfl⟩
          · injection ho with ho
            subst ho
            intro v hv
            obtain rfl : v = _ := hv
            simp only [Lex.dstOf, List.getElem?_cons_zero, List.getElem?_cons_succ, Option.bind_some]
            show wpList _ _ _ _ _ _
            go_wp2
            exact ⟨by first | rfl | simp, Only.refl _ _, rfl⟩
          · injection ho with ho
            subst ho
            intro v hv
            obtain rfl : v = _ := hv
            simp only [Lex.dstOf, List.getElem?_cons_zero, List.getElem?_cons_succ, Option.bind_some]
            have hbx := B6J.out.only ((Only.refl [] wr).drew.trans HR.out) (by simp)
            have x0 := hbx.cell 0
            have x1 := hbx.cell 1
            have x2 := hbx.cell 2
            have x3 := hbx.cell 3
            have x4 := hbx.cell 4
            simp at x0 x1 x2 x3 x4
            clear hbx
            show wpList _ _ _ _ _ _
            go_wp2
            exact ⟨by first | rfl | simp, Only.refl _ _, rfl⟩
          · injection ho with ho
            subst ho
            intro v hv
            obtain rfl : v = _ := hv
            simp only [Lex.dstOf, List.getElem?_cons_zero, List.getElem?_cons_succ, Option.bind_some]
            show wpList _ _ _ _ _ _
            go_wp2
            exact ⟨by first | rfl | simp, Only.refl _ _, rfl⟩
          · injection ho with ho
            subst ho
            intro v hv
            obtain rfl : v = _ := hv
            simp only [Lex.dstOf, List.getElem?_cons_zero, List.getElem?_cons_succ, Option.bind_some]
            show wpList _ _ _ _ _ _
            go_wp2
            exact ⟨by first | rfl | simp, Only.refl _ _, rfl⟩
          · injection ho with ho
            subst ho
            intro v hv
            obtain rfl : v = _ := hv
            intro v hv
            obtain rfl : v = _ := hv
            intro v hv
            obtain rfl : v = _ := hv
            simp only [Lex.dstOf, List.getElem?_cons_zero, List.getElem?_cons_succ, Option.bind_some]
            show wpList _ _ _ _ _ _
            go_wp2
            exact ⟨by first | rfl | simp, Only.refl _ _, rfl⟩
          · injection ho with ho
            subst ho
            intro v hv
            obtain rfl : v = _ := hv
            intro v hv
            obtain rfl : v = _ := hv
            simp only [Lex.dstOf, List.getElem?_cons_zero, List.getElem?_cons_succ, Option.bind_some]
            have hx : ∀ c u, ([iv d0, iv d1, fv d2, .string d3, .slice d4 d5 d6] : List Value)[c]? = some u → w8.cell? ⟨g, off + j * 5 + c, none⟩ = some u := fun c u hu => ((HOJ.out.trans ((Only.refl [] wr).drew.trans HR.out)).cell (p := ⟨g, off + j * 5 + c, none⟩) HG.out (by simp)).trans (HXJ.out c u hu)
            have x0 := hx 0 (iv d0) rfl
            have x1 := hx 1 (iv d1) rfl
            have x2 := hx 2 (fv d2) rfl
            have x3 := hx 3 (.string d3) rfl
            have x4 := hx 4 (.slice d4 d5 d6) rfl
            rw [Nat.add_zero] at x0
            clear hx
            show wpList _ _ _ _ _ _
            go_wp2
            exact ⟨by first | rfl | simp, Only.refl _ _, rfl⟩
          · injection ho with ho
            subst ho
            intro v hv
            obtain rfl : v = _ := hv
            intro v hv
            obtain rfl : v = _ := hv
            intro v hv
            obtain rfl : v = _ := hv
            simp only [Lex.dstOf, List.getElem?_cons_zero, List.getElem?_cons_succ, Option.bind_some]
            have HQ := Lib.hid (compare_ok (TJ.out.vis.only0 ((Only.refl [] wr).drew.trans HR.out)) (YJ.out.only0 ((Only.refl [] wr).drew.trans HR.out)))
            show wpList _ _ _ _ _ _
            go_wp2_with fail
            refine HQ.out.mono ?_
            clear HQ
            rintro e w9 ⟨rfl, ho⟩
            go_wp2
            exact ⟨rfl, ho, rfl⟩
          · injection ho with ho
            subst ho
            intro v hv
            obtain rfl : v = _ := hv
            simp only [Lex.dstOf, List.getElem?_cons_zero, List.getElem?_cons_succ, Option.bind_some]
            show wpList _ _ _ _ _ _
            go_wp2
            exact ⟨by first | rfl | simp, Only.refl _ _, rfl⟩
          · injection ho with ho
            subst ho
            intro v hv
            obtain rfl : v = _ := hv
            simp only [Lex.dstOf, List.getElem?_cons_zero, List.getElem?_cons_succ, Option.bind_some]
            show wpList _ _ _ _ _ _
            go_wp2
            exact ⟨by first | rfl | simp, Only.refl _ _, rfl⟩
          · injection ho with ho
            subst ho
            intro v hv
            obtain rfl : v = _ := hv
            intro v hv
            obtain rfl : v = _ := hv
            intro v hv
            obtain rfl : v = _ := hv
            simp only [Lex.dstOf, List.getElem?_cons_zero, List.getElem?_cons_succ, Option.bind_some]
            show wpList _ _ _ _ _ _
            go_wp2
            exact ⟨by first | rfl | simp, Only.refl _ _, rfl⟩
          · injection ho with ho
            subst ho
            intro v hv
            obtain rfl : v = _ := hv
            intro v hv
            obtain rfl : v = _ := hv
            simp only [Lex.dstOf, List.getElem?_cons_zero, List.getElem?_cons_succ, Option.bind_some]
            have hx : ∀ c u, ([iv c0, iv c1, fv c2, .string c3, .slice c4 c5 c6] : List Value)[c]? = some u → w8.cell? ⟨g, off + k * 5 + c, none⟩ = some u := fun c u hu => ((HOJ.out.trans ((Only.refl [] wr).drew.trans HR.out)).cell (p := ⟨g, off + k * 5 + c, none⟩) HG.out (by simp)).trans (HX.out c u hu)
            have x0 := hx 0 (iv c0) rfl
            have x1 := hx 1 (iv c1) rfl
            have x2 := hx 2 (fv c2) rfl
            have x3 := hx 3 (.string c3) rfl
            have x4 := hx 4 (.slice c4 c5 c6) rfl
            rw [Nat.add_zero] at x0
            clear hx
            show wpList _ _ _ _ _ _
            go_wp2
            exact ⟨by first | rfl | simp, Only.refl _ _, rfl⟩
          · injection ho with ho
            subst ho
            intro v hv
            obtain rfl : v = _ := hv
            simp only [Lex.dstOf, List.getElem?_cons_zero, List.getElem?_cons_succ, Option.bind_some]
            show wpList _ _ _ _ _ _
            go_wp2
            exact ⟨by first | rfl | simp, Only.refl _ _, rfl⟩
          · injection ho with ho
            subst ho
            intro v hv
            obtain rfl : v = _ := hv
            simp only [Lex.dstOf, List.getElem?_cons_zero, List.getElem?_cons_succ, Option.bind_some]
            show wpList _ _ _ _ _ _
            go_wp2
            exact ⟨by first | rfl | simp, Only.refl _ _, rfl⟩
          · injection ho with ho
            subst ho
            intro v hv
            obtain rfl : v = _ := hv
            intro v hv
            obtain rfl : v = _ := hv
            intro v hv
            obtain rfl : v = _ := hv
            simp only [Lex.dstOf, List.getElem?_cons_zero, List.getElem?_cons_succ, Option.bind_some]
            show wpList _ _ _ _ _ _
            go_wp2
            exact ⟨by first | rfl | simp, Only.refl _ _, rfl⟩
          · injection ho with ho
            subst ho
            intro v hv
            obtain rfl : v = _ := hv
            intro v hv
            obtain rfl : v = _ := hv
            simp only [Lex.dstOf, List.getElem?_cons_zero, List.getElem?_cons_succ, Option.bind_some]
            have hx : ∀ c u, ([iv d0, iv d1, fv d2, .string d3, .slice d4 d5 d6] : List Value)[c]? = some u → w8.cell? ⟨g, off + j * 5 + c, none⟩ = some u := fun c u hu => ((HOJ.out.trans ((Only.refl [] wr).drew.trans HR.out)).cell (p := ⟨g, off + j * 5 + c, none⟩) HG.out (by simp)).trans (HXJ.out c u hu)
            have x0 := hx 0 (iv d0) rfl
            have x1 := hx 1 (iv d1) rfl
            have x2 := hx 2 (fv d2) rfl
            have x3 := hx 3 (.string d3) rfl
            have x4 := hx 4 (.slice d4 d5 d6) rfl
            rw [Nat.add_zero] at x0
            clear hx
            show wpList _ _ _ _ _ _
            go_wp2
            exact ⟨by first | rfl | simp, Only.refl _ _, rfl⟩
          · injection ho with ho
            subst ho
            intro v hv
            obtain rfl : v = _ := hv
            intro v hv
            obtain rfl : v = _ := hv
            intro v hv
            obtain rfl : v = _ := hv
            simp only [Lex.dstOf, List.getElem?_cons_zero, List.getElem?_cons_succ, Option.bind_some]
            have HQ := Lib.hid (compare2_ok (EJ.out.only0 ((Only.refl [] wr).drew.trans HR.out)) (YJ.out.only0 ((Only.refl [] wr).drew.trans HR.out)))
            show wpList _ _ _ _ _ _
            go_wp2_with fail
            refine HQ.out.mono ?_
            clear HQ
            rintro e w9 ⟨rfl, ho⟩
            go_wp2
            exact ⟨rfl, ho, rfl⟩
          · injection ho with ho
            subst ho
            intro v hv
            obtain rfl : v = _ := hv
            intro v hv
            obtain rfl : v = _ := hv
            intro v hv
            obtain rfl : v = _ := hv
            simp only [Lex.dstOf, List.getElem?_cons_zero, List.getElem?_cons_succ, Option.bind_some]
            show wpList _ _ _ _ _ _
            go_wp2
            exact ⟨by first | rfl | simp, Only.refl _ _, rfl⟩
          · injection ho with ho
            subst ho
            intro v hv
            obtain rfl : v = _ := hv
            intro v hv
            obtain rfl : v = _ := hv
            simp only [Lex.dstOf, List.getElem?_cons_zero, List.getElem?_cons_succ, Option.bind_some]
            show wpList _ _ _ _ _ _
            go_wp2
            exact ⟨by first | rfl | simp, Only.refl _ _, rfl⟩
          · injection ho with ho
            subst ho
            intro v hv
            obtain rfl : v = _ := hv
            simp only [Lex.dstOf, List.getElem?_cons_zero, List.getElem?_cons_succ, Option.bind_some]
            have hbx := B6J.out.only ((Only.refl [] wr).drew.trans HR.out) (by simp)
            have x0 := hbx.cell 0
            have x1 := hbx.cell 1
            have x2 := hbx.cell 2
            have x3 := hbx.cell 3
            have x4 := hbx.cell 4
            simp at x0 x1 x2 x3 x4
            clear hbx
            show wpList _ _ _ _ _ _
            go_wp2
            exact ⟨by first | rfl | simp, Only.refl _ _, rfl⟩
          · injection ho with ho
            subst ho
            intro v hv
            obtain rfl : v = _ := hv
            simp only [Lex.dstOf, List.getElem?_cons_zero, List.getElem?_cons_succ, Option.bind_some]
            show wpList _ _ _ _ _ _
            go_wp2
            exact ⟨by first | rfl | simp, Only.refl _ _, rfl⟩
          · injection ho with ho
            subst ho
            intro v hv
            obtain rfl : v = _ := hv
            simp only [Lex.dstOf, List.getElem?_cons_zero, List.getElem?_cons_succ, Option.bind_some]
            show wpList _ _ _ _ _ _
            go_wp2
            exact ⟨by first | rfl | simp, Only.refl _ _, rfl⟩
          · injection ho with ho
            subst ho
            intro v hv
            obtain rfl : v = _ := hv
            intro v hv
            obtain rfl : v = _ := hv
            intro v hv
            obtain rfl : v = _ := hv
            simp only [Lex.dstOf, List.getElem?_cons_zero, List.getElem?_cons_succ, Option.bind_some]
            show wpList _ _ _ _ _ _
            go_wp2
            exact ⟨by first | rfl | simp, Only.refl _ _, rfl⟩
          · injection ho with ho
            subst ho
            intro v hv
            obtain rfl : v = _ := hv
            intro v hv
            obtain rfl : v = _ := hv
            simp only [Lex.dstOf, List.getElem?_cons_zero, List.getElem?_cons_succ, Option.bind_some]
            have hx : ∀ c u, ([iv d0, iv d1, fv d2, .string d3, .slice d4 d5 d6] : List Value)[c]? = some u → w8.cell? ⟨g, off + j * 5 + c, none⟩ = some u := fun c u hu => ((HOJ.out.trans ((Only.refl [] wr).drew.trans HR.out)).cell (p := ⟨g, off + j * 5 + c, none⟩) HG.out (by simp)).trans (HXJ.out c u hu)
            have x0 := hx 0 (iv d0) rfl
            have x1 := hx 1 (iv d1) rfl
            have x2 := hx 2 (fv d2) rfl
            have x3 := hx 3 (.string d3) rfl
            have x4 := hx 4 (.slice d4 d5 d6) rfl
            rw [Nat.add_zero] at x0
            clear hx
            show wpList _ _ _ _ _ _
            go_wp2
            exact ⟨by first | rfl | simp, Only.refl _ _, rfl⟩
          · injection ho with ho
            subst ho
            intro v hv
            obtain rfl : v = _ := hv
            intro v hv
            obtain rfl : v = _ := hv
            intro v hv
            obtain rfl : v = _ := hv
            simp only [Lex.dstOf, List.getElem?_cons_zero, List.getElem?_cons_succ, Option.bind_some]
            have HQ := Lib.hid (same_ok (TJ.out.vis.only0 ((Only.refl [] wr).drew.trans HR.out)) (YJ.out.only0 ((Only.refl [] wr).drew.trans HR.out)))
            show wpList _ _ _ _ _ _
            go_wp2_with fail
            refine HQ.out.mono ?_
            clear HQ
            rintro e w9 ⟨rfl, ho⟩
            go_wp2
            exact ⟨rfl, ho, rfl⟩
          · injection ho with ho
            subst ho
            intro v hv
            obtain rfl : v = _ := hv
            simp only [Lex.dstOf, List.getElem?_cons_zero, List.getElem?_cons_succ, Option.bind_some]
            show wpList _ _ _ _ _ _
            go_wp2
            exact ⟨by first | rfl | simp, Only.refl _ _, rfl⟩
          · injection ho with ho
            subst ho
            intro v hv
            obtain rfl : v = _ := hv
            simp only [Lex.dstOf, List.getElem?_cons_zero, List.getElem?_cons_succ, Option.bind_some]
            show wpList _ _ _ _ _ _
            go_wp2
            exact ⟨by first | rfl | simp, Only.refl _ _, rfl⟩
          · injection ho with ho
            subst ho
            intro v hv
            obtain rfl : v = _ := hv
            intro v hv
            obtain rfl : v = _ := hv
            intro v hv
            obtain rfl : v = _ := hv
            simp only [Lex.dstOf, List.getElem?_cons_zero, List.getElem?_cons_succ, Option.bind_some]
            show wpList _ _ _ _ _ _
            go_wp2
            exact ⟨by first | rfl | simp, Only.refl _ _, rfl⟩
          · injection ho with ho
            subst ho
            intro v hv
            obtain rfl : v = _ := hv
            intro v hv
            obtain rfl : v = _ := hv
            simp only [Lex.dstOf, List.getElem?_cons_zero, List.getElem?_cons_succ, Option.bind_some]
            have hx : ∀ c u, ([iv c0, iv c1, fv c2, .string c3, .slice c4 c5 c6] : List Value)[c]? = some u → w8.cell? ⟨g, off + k * 5 + c, none⟩ = some u := fun c u hu => ((HOJ.out.trans ((Only.refl [] wr).drew.trans HR.out)).cell (p := ⟨g, off + k * 5 + c, none⟩) HG.out (by simp)).trans (HX.out c u hu)
            have x0 := hx 0 (iv c0) rfl
            have x1 := hx 1 (iv c1) rfl
            have x2 := hx 2 (fv c2) rfl
            have x3 := hx 3 (.string c3) rfl
            have x4 := hx 4 (.slice c4 c5 c6) rfl
            rw [Nat.add_zero] at x0
            clear hx
            show wpList _ _ _ _ _ _
            go_wp2
            exact ⟨by first | rfl | simp, Only.refl _ _, rfl⟩
          · injection ho with ho
            subst ho
            intro v hv
            obtain rfl : v = _ := hv
            simp only [Lex.dstOf, List.getElem?_cons_zero, List.getElem?_cons_succ, Option.bind_some]
            show wpList _ _ _ _ _ _
            go_wp2
            exact ⟨by first | rfl | simp, Only.refl _ _, rfl⟩
          · injection ho with ho
            subst ho
            intro v hv
            obtain rfl : v = _ := hv
            simp only [Lex.dstOf, List.getElem?_cons_zero, List.getElem?_cons_succ, Option.bind_some]
            show wpList _ _ _ _ _ _
            go_wp2
            exact ⟨by first | rfl | simp, Only.refl _ _, rfl⟩
          · injection ho with ho
            subst ho
            intro v hv
            obtain rfl : v = _ := hv
            intro v hv
            obtain rfl : v = _ := hv
            intro v hv
            obtain rfl : v = _ := hv
            simp only [Lex.dstOf, List.getElem?_cons_zero, List.getElem?_cons_succ, Option.bind_some]
            show wpList _ _ _ _ _ _
            go_wp2
            exact ⟨by first | rfl | simp, Only.refl _ _, rfl⟩
          · injection ho with ho
            subst ho
            intro v hv
            obtain rfl : v = _ := hv
            intro v hv
            obtain rfl : v = _ := hv
            simp only [Lex.dstOf, List.getElem?_cons_zero, List.getElem?_cons_succ, Option.bind_some]
            have hx : ∀ c u, ([iv d0, iv d1, fv d2, .string d3, .slice d4 d5 d6] : List Value)[c]? = some u → w8.cell? ⟨g, off + j * 5 + c, none⟩ = some u := fun c u hu => ((HOJ.out.trans ((Only.refl [] wr).drew.trans HR.out)).cell (p := ⟨g, off + j * 5 + c, none⟩) HG.out (by simp)).trans (HXJ.out c u hu)
            have x0 := hx 0 (iv d0) rfl
            have x1 := hx 1 (iv d1) rfl
            have x2 := hx 2 (fv d2) rfl
            have x3 := hx 3 (.string d3) rfl
            have x4 := hx 4 (.slice d4 d5 d6) rfl
            rw [Nat.add_zero] at x0
            clear hx
            show wpList _ _ _ _ _ _
            go_wp2
            exact ⟨by first | rfl | simp, Only.refl _ _, rfl⟩
          · injection ho with ho
            subst ho
            intro v hv
            obtain rfl : v = _ := hv
            intro v hv
            obtain rfl : v = _ := hv
            intro v hv
            obtain rfl : v = _ := hv
            simp only [Lex.dstOf, List.getElem?_cons_zero, List.getElem?_cons_succ, Option.bind_some]
            have HQ := Lib.hid (same2_ok (EJ.out.only0 ((Only.refl [] wr).drew.trans HR.out)) (YJ.out.only0 ((Only.refl [] wr).drew.trans HR.out)))
            show wpList _ _ _ _ _ _
            go_wp2_with fail
            refine HQ.out.mono ?_
            clear HQ
            rintro e w9 ⟨rfl, ho⟩
            go_wp2
            exact ⟨rfl, ho, rfl⟩
          · injection ho with ho
            subst ho
            intro v hv
            obtain rfl : v = _ := hv
            intro v hv
            obtain rfl : v = _ := hv
            intro v hv
            obtain rfl : v = _ := hv
            simp only [Lex.dstOf, List.getElem?_cons_zero, List.getElem?_cons_succ, Option.bind_some]
            show wpList _ _ _ _ _ _
            go_wp2
            exact ⟨by first | rfl | simp, Only.refl _ _, rfl⟩
          · injection ho with ho
            subst ho
            intro v hv
            obtain rfl : v = _ := hv
            intro v hv
            obtain rfl : v = _ := hv
            intro v hv
            obtain rfl : v = _ := hv
            simp only [Lex.dstOf, List.getElem?_cons_zero, List.getElem?_cons_succ, Option.bind_some]
            show wpList _ _ _ _ _ _
            go_wp2
            exact ⟨by first | rfl | simp, Only.refl _ _, rfl⟩
          · injection ho with ho
            subst ho
            intro v hv
            obtain rfl : v = _ := hv
            intro v hv
            obtain rfl : v = _ := hv
            simp only [Lex.dstOf, List.getElem?_cons_zero, List.getElem?_cons_succ, Option.bind_some]
            show wpList _ _ _ _ _ _
            go_wp2
            exact ⟨by first | rfl | simp, Only.refl _ _, rfl⟩
          · cases ho
        intro w8 hR
        show ∀ v0, _ → ∀ v1, _ → ∀ v2, _ → ∀ v3, _ → ∀ v4, _ → ∀ v5, _ → ∀ v6, _ → ∀ v7, _ → ∀ v8, _ → ∀ v9, _ → ∀ v10, _ → ∀ v11, _ → ∀ v12, _ → ∀ v13, _ → ∀ v14, _ → ∀ v15, _ → ∀ v16, _ → ∀ v17, _ → ∀ v18, _ → ∀ v19, _ → ∀ v20, _ → ∀ v21, _ → ∀ v22, _ → ∀ v23, _ → ∀ v24, _ → ∀ v25, _ → ∀ v26, _ → ∀ v27, _ → ∀ v28, _ → ∀ v29, _ → ∀ v30, _ → ∀ v31, _ → ∀ v32, _ → ∀ v33, _ → ∀ v34, _ → ∀ v35, _ → ∀ v36, _ → ∀ v37, _ → ∀ v38, _ → ∀ v39, _ → ∀ v40, _ → Exit.then _ _ _ _ _
        intro v0 _ v1 _ v2 _ v3 _ v4 _ v5 _ v6 _ v7 _ v8 _ v9 _ v10 _ v11 _ v12 _ v13 _ v14 _ v15 _ v16 _ v17 _ v18 _ v19 _ v20 _ v21 _ v22 _ v23 _ v24 _ v25 _ v26 _ v27 _ v28 _ v29 _ v30 _ v31 _ v32 _ v33 _ v34 _ v35 _ v36 _ v37 _ v38 _ v39 _ v40 h40
        simp only [Lex.dstOf, List.getElem?_cons_zero, List.getElem?_cons_succ, Option.bind_some]
        obtain rfl : v40 = _ := h40
        simp only [Act.put, List.setIfInBounds_toArray, List.set_cons_succ, List.set_cons_zero]
        have HJ2 := Lib.hid (HJ.out.trans ((Only.refl [] wr).drew.trans hR))
        clear hR
        go_wp2
        go_roundw
        case measure => simp [intOf]; omega
        case rel => exact ⟨j + 1, by omega, by go_num, HJ2⟩
theorem all_row (w : World) (s : Value) (l : List V) (h : VL w (· < w.heap.size) l s) : Calls Try.prog 8 #[s] w fun e w' => e = .returned (.bool true) ∧ Only [] w w' := vall_ok w h
end Go.Proofs.Ytffdfegelgpniaa
