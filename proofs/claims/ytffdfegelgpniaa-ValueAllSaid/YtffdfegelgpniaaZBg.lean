/-
  ValueBack: the walk.
-/
import Derived.Test.YtffdfegelgpniaaZBf
set_option linter.unusedSimpArgs false
set_option linter.unusedVariables false
set_option linter.unusedSimpArgs false
set_option linter.unusedVariables false
namespace Go.Proofs.Ytffdfegelgpniaa
open Go.RowKit Go.Fl

theorem zero_vis (w : World) : VIs w (fun _ => True) (.mk 0 0 0 ⟨#[]⟩ []) [iv 0, iv 0, fv 0, .string ⟨#[]⟩, .slice none 0 0] :=
  .mk (l := []) (fun _ => []) (by decide) (by decide) (by omega) (Nat.zero_le _) (Nat.zero_le _) (Nat.zero_le _) (fun h => absurd h (Nat.not_lt_zero _)) fun j h => absurd h (Nat.not_lt_zero _)
theorem BytesV.take {w : World} {F : Nat → Prop} {bs : List Nat} {a : Option Addr} {n cap q : Nat} (h : BytesV w F bs (.slice a n cap)) (hq : q ≤ bs.length) : BytesV w F (bs.take q) (.slice a q cap) := by
  obtain ⟨a', cap', e, h1, h2, h3, h4⟩ := h
  injection e with e1 e2 e3
  subst e1
  subst e3
  have hl : (bs.take q).length = q := by rw [List.length_take]; omega
  refine ⟨a, cap, by rw [hl], by omega, h2, fun c hc => h3 c (List.mem_of_mem_take hc), fun h0 => ?_⟩
  obtain ⟨g, off, h5, h6, h7, h8⟩ := h4 (by omega)
  exact ⟨g, off, h5, h6, h7, fun j hj => by rw [h8 j (by omega), List.getElem_take]⟩
set_option maxRecDepth 1000000 in
set_option maxHeartbeats 6400000 in
theorem back_ok {w : World} {F G : Nat → Prop} {v : V} {cs : List Value} {bs : List Nat} {s : Value} (hv : VIs w F v cs) (hb : BytesV w G bs s) : Calls Try.prog 7 #[.agg cs.toArray, s] w fun e w' => e = .returned (.bool true) ∧ Only [] w w' := by
  obtain ⟨j5, si, sz0, sz1, sz2⟩ := info_parts info5
  have HBB := Lib.hid (show ∀ c ∈ bs, c < 256 by obtain ⟨_, _, _, _, _, hb, _⟩ := hb; exact hb)
  have hcm : ∃ sa sc, s = .slice sa bs.length sc ∧ bs.length ≤ sc := by obtain ⟨a, cap, e, h, _⟩ := hb; exact ⟨a, cap, e, h⟩
  obtain ⟨sa, sc, rfl, hbsc⟩ := hcm
  obtain ⟨k, i, r, t, a, n, cap, rfl⟩ := hv.five
  have HV := Lib.hid hv
  have HS := Lib.hid hb
  have HG := Lib.hid (fun x (hx : v.item = some x) => item_good hv hx)
  have HB0 := Lib.hid (Blk.new w 33 #[iv k, iv i, fv r, .string t, .slice a n cap])
  clear hv hb
  go_enter Try.func7, Try.ntmps7
  have HQ := Lib.hid (begun_ok (w.alloc (.cells #[iv k, iv i, fv r, .string t, .slice a n cap] 33)))
  go_wp2_with fail
  refine HQ.out.mono ?_
  clear HQ
  rintro e w1 ⟨rfl, ho⟩
  have HO1 := Lib.hid (show Only [] w w1 from ((Only.refl [] w).alloc _).trans ho)
  have HB1 := Lib.hid (HB0.out.only ho (by simp))
  have HV1 := Lib.hid (HV.out.only0 HO1.out)
  have HS1 := Lib.hid (HS.out.only HO1.out (fun _ _ => by simp))
  clear ho HB0 HV HS
  have HQ := Lib.hid (Light_ok HV1.out)
  have p0 := HB1.out.cell 0
  have p1 := HB1.out.cell 1
  have p2 := HB1.out.cell 2
  have p3 := HB1.out.cell 3
  have p4 := HB1.out.cell 4
  simp at p0 p1 p2 p3 p4
  cases hla : v.isLight
  · rw [hla] at HQ
    go_wp2_with fail
    refine HQ.out.mono ?_
    rintro e w2 ⟨rfl, ho⟩
    go_wp2
    exact bodyPost_ret (results_tmp rfl _ _ _) rfl ⟨rfl, HO1.out.trans ho⟩
  rw [hla] at HQ
  clear hla
  go_wp2_with fail
  refine HQ.out.mono ?_
  clear HQ p0 p1 p2 p3 p4
  rintro e w2 ⟨rfl, ho⟩
  have HO2 := Lib.hid (HO1.out.trans ho)
  have HB2 := Lib.hid (HB1.out.only ho (by simp))
  have HV2 := Lib.hid (HV1.out.only0 ho)
  have HS2 := Lib.hid (HS1.out.only ho (fun _ _ => by simp))
  clear ho HO1 HB1 HV1 HS1
  by_cases hbl : bs.length ≤ 65536
  case neg =>
    have hblz : (65536 : Int) < (bs.length : Int) := by omega
    clear hbl
    go_wp2
    exact bodyPost_ret (results_tmp rfl _ _ _) rfl ⟨rfl, HO2.out⟩
  have hblz : ¬ (65536 : Int) < (bs.length : Int) := by omega
  have HBL := Lib.hid hbl
  clear hbl
  have HQ := Lib.hid (Key_ok HV2.out)
  have p0 := HB2.out.cell 0
  have p1 := HB2.out.cell 1
  have p2 := HB2.out.cell 2
  have p3 := HB2.out.cell 3
  have p4 := HB2.out.cell 4
  simp at p0 p1 p2 p3 p4
  cases hit : v.item with
  | none =>
    rw [hit] at HQ
    clear hit
    go_wp2_with fail
    refine HQ.out.mono ?_
    clear HQ p0 p1 p2 p3 p4
    rintro e w3 ⟨kv, rfl, _, _, ho⟩
    have HO3 := Lib.hid (HO2.out.trans ho)
    have HS3 := Lib.hid (HS2.out.only ho (fun _ _ => by simp))
    clear ho HO2 HS2 HB2 HV2 hblz
    have hbl := HBL.out
    have HQ := Lib.hid (read_ok HS3.out (by omega))
    go_wp2_with fail
    refine HQ.out.mono ?_
    clear HQ
    intro e wa hp
    unfold ReadPost at hp
    cases hr : pread bs with
    | bad p c =>
      rw [hr] at hp
      obtain ⟨rfl, ho⟩ := hp
      have hc := read_bad HBB.out hr
      have hc0 : (c != 0) = true := by rw [bne_iff_ne]; omega
      have HOA := Lib.hid (HO3.out.trans ho)
      clear hr ho hc HO3 HS3
      go_wp2_with (refine wpList_store_blk rfl 33 (.tmp 12) (.tmp 69) rfl zeroV rfl rfl (Blk.new _ _ _) (by kernel_rfl) (by simp) (by simp [Value.oneCell']) ?_)
      intro wb hB hO2
      have hOr : Only [] wa wb := ((Only.refl [] wa).alloc _).trans' hO2 (fun i hi => .inr (by simp at hi; omega))
      have HB := Lib.hid (show Blk wb wa.heap.size 33 #[iv 0, iv 0, fv 0, .string ⟨#[]⟩, .slice none 0 0] from hB)
      have HOB := Lib.hid (HOA.out.trans hOr)
      clear hB hO2 hOr HOA
      have HQ := Lib.hid (eq_ok _ wb _ _ _ _ _ (zero_vis wb) (zero_vis wb))
      rw [eqV_refl] at HQ
      have p0 := HB.out.cell 0
      have p1 := HB.out.cell 1
      have p2 := HB.out.cell 2
      have p3 := HB.out.cell 3
      have p4 := HB.out.cell 4
      simp at p0 p1 p2 p3 p4
      go_wp2_with fail
      refine HQ.out.mono ?_
      clear HQ p0 p1 p2 p3 p4
      rintro e wc ⟨rfl, ho⟩
      go_wp2
      exact bodyPost_ret (results_tmp rfl _ _ _) rfl ⟨rfl, HOB.out.trans ho⟩
    | ok v2 q rm =>
      rw [hr] at hp
      obtain ⟨cs2, S2, rfl, hvo, hnd, hge, ho⟩ := hp
      obtain ⟨hq, x2, hx2, hk2⟩ := read_back HBB.out hr
      have HOA := Lib.hid (HO3.out.trans ho)
      have HSA := Lib.hid (HS3.out.only ho (fun _ _ => by simp))
      have HX2 := Lib.hid hx2
      have HK2 := Lib.hid hk2
      have HVI := Lib.hid hvo.vis
      obtain ⟨k2, i2, r2, t2, a2, n2, c2, rfl⟩ := hvo.form
      clear hr ho hvo hnd hge hx2 hk2 HO3 HS3
      go_wp2_with (refine wpList_store_blk rfl 33 (.tmp 12) (.tmp 69) rfl [iv k2, iv i2, fv r2, .string t2, .slice a2 n2 c2] rfl rfl (Blk.new _ _ _) (by kernel_rfl) (by simp) (by simp [Value.oneCell']) ?_)
      intro wb hB hO2
      have hOr : Only [] wa wb := ((Only.refl [] wa).alloc _).trans' hO2 (fun i hi => .inr (by simp at hi; omega))
      have HB := Lib.hid (show Blk wb wa.heap.size 33 #[iv k2, iv i2, fv r2, .string t2, .slice a2 n2 c2] from hB)
      have HOB := Lib.hid (HOA.out.trans hOr)
      have HSB := Lib.hid (HSA.out.only hOr (fun _ _ => by simp))
      have HQ := Lib.hid (Key_ok (HVI.out.only0 hOr))
      rw [HX2.out] at HQ
      clear hB hO2 hOr HOA HSA HVI
      have p0 := HB.out.cell 0
      have p1 := HB.out.cell 1
      have p2 := HB.out.cell 2
      have p3 := HB.out.cell 3
      have p4 := HB.out.cell 4
      simp at p0 p1 p2 p3 p4
      go_wp2_with fail
      refine HQ.out.mono ?_
      clear HQ p0 p1 p2 p3 p4 HB
      rintro e wc ⟨kv2, rfl, hsl2, _, ho⟩
      have HSC := Lib.hid (HSB.out.only ho (fun _ _ => by simp))
      have HOC := Lib.hid (HOB.out.trans ho)
      have HSL2 := Lib.hid (show Sl wc 5 1 kv2 x2.key.length (x2.key.map bv) from hsl2)
      clear HSB HOB hsl2 ho
      have hqz : (q : Int) ≤ (bs.length : Int) := by omega
      have HBT := Lib.hid (HSC.out.take hq)
      have hb6 : ∀ c ∈ x2.key, c < 256 := key_byte x2
      have HQ := Lib.hid (eqB_ok (bytes_of_sl HSL2.out hb6) HBT.out)
      rw [decide_eq_true HK2.out] at HQ
      clear hb6
      go_wp2_with fail
      refine HQ.out.mono ?_
      clear HQ
      rintro e wd ⟨rfl, ho⟩
      go_wp2
      exact bodyPost_ret (results_tmp rfl _ _ _) rfl ⟨rfl, HOC.out.trans ho⟩
  | some x =>
    rw [hit] at HQ
    have HIT := Lib.hid hit
    have HGD := Lib.hid (HG.out x hit)
    have hkl : x.key.length ≤ 589824 := by
      have g1 := item_size hit
      have g2 := key_len x
      omega
    clear hit
    go_wp2_with fail
    refine HQ.out.mono ?_
    clear HQ p0 p1 p2 p3 p4
    rintro e w3 ⟨kv, rfl, hsl, _, ho⟩
    have HO3 := Lib.hid (HO2.out.trans ho)
    have HS3 := Lib.hid (HS2.out.only ho (fun _ _ => by simp))
    have HB3 := Lib.hid (HB2.out.only ho (by simp))
    have HV3 := Lib.hid (HV2.out.only0 ho)
    have HK3 := Lib.hid (show Sl w3 5 1 kv x.key.length (x.key.map bv) from hsl)
    obtain ⟨ka, kc, hkv, _, _⟩ := HK3.out.shape
    subst hkv
    clear ho hsl HO2 HS2 HB2 HV2 hblz
    have hbl := HBL.out
    go_wp2_with (at_builtin; refine wpList_append_sls rfl (.const (.slice none 0 0)) (.tmp 33) 28 rfl 5 j5 _ 1 1 Try.underlying28 si sz0 sz1 sz2 rfl (by decide) rfl (Sl.nil _ _ _) rfl HK3.out (by simp [Value.oneCell']) (by unfold maxLen; omega) (by omega) ?_)
    intro b4 w4 hS hg hat
    have ho : Only [] w3 w4 := (Only.refl _ _).grown hg fun k hk => by cases hk
    have HSL4 := Lib.hid (show Sl w4 5 1 b4 x.key.length (x.key.map bv) by simpa using hS)
    have HAT4 := Lib.hid (show ∀ g, b4.ownBlock = some g → w3.heap.size ≤ g from fun g hg => by
      rcases hat with e | e
      · rw [e] at hg; cases hg
      · rw [e] at hg; injection hg with hg; omega)
    have HO4 := Lib.hid ho
    have HS4 := Lib.hid (HS3.out.only ho (fun _ _ => by simp))
    clear hS hg hat ho
    go_wp2_with (at_builtin; refine wpList_append_row (f := bv) rfl (.tmp 34) (.tmp 35) 28 rfl 5 j5 _ 1 Try.underlying28 si sz0 sz1 sz2 rfl rfl HSL4.out rfl HS4.out.row (fun _ => rfl) (by unfold maxLen; omega) (by omega) ?_)
    intro b5 w5 hS hg hat
    have ho : Only [] w3 w5 := HO4.out.grown hg fun k hk => .inr (HAT4.out k hk)
    have HSL5 := Lib.hid (show Sl w5 5 1 b5 (x.key.length + bs.length) ((x.key ++ bs).map bv) by rw [List.map_append]; exact hS)
    have HO5 := Lib.hid (HO3.out.trans ho)
    have HS5 := Lib.hid (HS3.out.only ho (fun _ _ => by simp))
    have HB5 := Lib.hid (HB3.out.only ho (by simp))
    have HV5 := Lib.hid (HV3.out.only0 ho)
    clear hS hg hat ho HSL4 HAT4 HO4 HS4 HO3 HS3 HB3 HV3
    have hb6 : ∀ c ∈ x.key ++ bs, c < 256 := fun c hc => by
      rcases List.mem_append.1 hc with hc | hc
      · exact key_byte x c hc
      · exact HBB.out c hc
    have HB6 := Lib.hid hb6
    have HRD := Lib.hid (read_key HGD.out (take_fits v 0 65536 x HIT.out) (item_size HIT.out) bs)
    have HQ := Lib.hid (read_ok (bytes_of_sl HSL5.out hb6) (by rw [List.length_append]; omega))
    rw [HRD.out] at HQ
    clear hb6
    go_wp2_with fail
    refine HQ.out.mono ?_
    clear HQ HSL5
    rintro e w6 ⟨cs2, S2, rfl, hvo, _, _, ho⟩
    have HO6 := Lib.hid (HO5.out.trans ho)
    have HS6 := Lib.hid (HS5.out.only ho (fun _ _ => by simp))
    have HX6 := Lib.hid (HB5.out.only ho (by simp))
    have HV6 := Lib.hid (HV5.out.only0 ho)
    have HW6 := Lib.hid hvo.vis
    obtain ⟨k2, i2, r2, t2, a2, n2, c2, rfl⟩ := hvo.form
    clear ho hvo HO5 HS5 HB5 HV5
    go_wp2_with (refine wpList_store_blk rfl 33 (.tmp 7) (.tmp 38) rfl [iv k2, iv i2, fv r2, .string t2, .slice a2 n2 c2] rfl rfl (Blk.new _ _ _) (by kernel_rfl) (by simp) (by simp [Value.oneCell']) ?_)
    intro w7 hB hO2
    have ho : Only [] w6 w7 := ((Only.refl [] w6).alloc _).trans' hO2 (fun i hi => .inr (by simp at hi; omega))
    have HB7 := Lib.hid (show Blk w7 w6.heap.size 33 #[iv k2, iv i2, fv r2, .string t2, .slice a2 n2 c2] from hB)
    have HO7 := Lib.hid (HO6.out.trans ho)
    have HS7 := Lib.hid (HS6.out.only ho (fun _ _ => by simp))
    have HX7 := Lib.hid (HX6.out.only ho (by simp))
    have HV7 := Lib.hid (HV6.out.only0 ho)
    have HW7 := Lib.hid (HW6.out.only0 ho)
    clear hB hO2 ho HO6 HS6 HX6 HV6 HW6
    have HQ := Lib.hid (copy_ok HV7.out)
    rw [HIT.out] at HQ
    have p0 := HX7.out.cell 0
    have p1 := HX7.out.cell 1
    have p2 := HX7.out.cell 2
    have p3 := HX7.out.cell 3
    have p4 := HX7.out.cell 4
    simp at p0 p1 p2 p3 p4
    go_wp2_with fail
    refine HQ.out.mono ?_
    clear HQ p0 p1 p2 p3 p4
    rintro e w8 ⟨cs3, S3, rfl, hvo, _, _, ho⟩
    have HO8 := Lib.hid (HO7.out.trans ho)
    have HS8 := Lib.hid (HS7.out.only ho (fun _ _ => by simp))
    have HX8 := Lib.hid (HX7.out.only ho (by simp))
    have HB8 := Lib.hid (HB7.out.only ho (by simp))
    have HV8 := Lib.hid (HV7.out.only0 ho)
    have HW8 := Lib.hid (HW7.out.only0 ho)
    have HC8 := Lib.hid hvo.vis
    obtain ⟨k3, i3, r3, t3, a3, n3, c3, rfl⟩ := hvo.form
    clear ho hvo HO7 HS7 HX7 HB7 HV7 HW7
    go_wp2_with (refine wpList_store_blk rfl 33 (.tmp 10) (.tmp 44) rfl [iv k3, iv i3, fv r3, .string t3, .slice a3 n3 c3] rfl rfl (Blk.new _ _ _) (by kernel_rfl) (by simp) (by simp [Value.oneCell']) ?_)
    intro w9 hB hO2
    have ho : Only [] w8 w9 := ((Only.refl [] w8).alloc _).trans' hO2 (fun i hi => .inr (by simp at hi; omega))
    have HC := Lib.hid (show Blk w9 w8.heap.size 33 #[iv k3, iv i3, fv r3, .string t3, .slice a3 n3 c3] from hB)
    have HO9 := Lib.hid (HO8.out.trans ho)
    have HS9 := Lib.hid (HS8.out.only ho (fun _ _ => by simp))
    have HX9 := Lib.hid (HX8.out.only ho (by simp))
    have HB9 := Lib.hid (HB8.out.only ho (by simp))
    have HV9 := Lib.hid (HV8.out.only0 ho)
    have HW9 := Lib.hid (HW8.out.only0 ho)
    have HC9 := Lib.hid (HC8.out.only0 ho)
    clear hB hO2 ho HO8 HS8 HX8 HB8 HV8 HW8 HC8
    have HQ := Lib.hid (eq_ok _ w9 _ _ _ _ _ HW9.out HC9.out)
    rw [eqV_refl] at HQ
    have hne : ((x.key.length : Int) != (x.key.length : Int)) = false := by simp
    have p0 := HB9.out.cell 0
    have p1 := HB9.out.cell 1
    have p2 := HB9.out.cell 2
    have p3 := HB9.out.cell 3
    have p4 := HB9.out.cell 4
    simp at p0 p1 p2 p3 p4
    have q0 := HC.out.cell 0
    have q1 := HC.out.cell 1
    have q2 := HC.out.cell 2
    have q3 := HC.out.cell 3
    have q4 := HC.out.cell 4
    simp at q0 q1 q2 q3 q4
    go_wp2_with fail
    refine HQ.out.mono ?_
    clear HQ p0 p1 p2 p3 p4 q0 q1 q2 q3 q4 HC HC9
    rintro e wA ⟨rfl, ho⟩
    have HOA := Lib.hid (HO9.out.trans ho)
    have HSA := Lib.hid (HS9.out.only ho (fun _ _ => by simp))
    have HXA := Lib.hid (HX9.out.only ho (by simp))
    have HBA := Lib.hid (HB9.out.only ho (by simp))
    have HVA := Lib.hid (HV9.out.only0 ho)
    have HWA := Lib.hid (HW9.out.only0 ho)
    clear ho HO9 HS9 HX9 HB9 HV9 HW9
    have HQ := Lib.hid (compare_ok HVA.out HWA.out)
    rw [(back_cmp HIT.out HGD.out bs HB6.out (fun y hy => item_good HWA.out hy)).1] at HQ
    have p0 := HXA.out.cell 0
    have p1 := HXA.out.cell 1
    have p2 := HXA.out.cell 2
    have p3 := HXA.out.cell 3
    have p4 := HXA.out.cell 4
    simp at p0 p1 p2 p3 p4
    have q0 := HBA.out.cell 0
    have q1 := HBA.out.cell 1
    have q2 := HBA.out.cell 2
    have q3 := HBA.out.cell 3
    have q4 := HBA.out.cell 4
    simp at q0 q1 q2 q3 q4
    go_wp2_with fail
    refine HQ.out.mono ?_
    clear HQ p0 p1 p2 p3 p4 q0 q1 q2 q3 q4 HXA HBA HVA HWA HB6 HRD HIT HGD HK3
    rintro e wB ⟨rfl, ho⟩
    have HOB := Lib.hid (HOA.out.trans ho)
    have HSB := Lib.hid (HSA.out.only ho (fun _ _ => by simp))
    clear ho HOA HSA hkl
    have HQ := Lib.hid (read_ok HSB.out (by omega))
    go_wp2_with fail
    refine HQ.out.mono ?_
    clear HQ
    intro e wa hp
    unfold ReadPost at hp
    cases hr : pread bs with
    | bad p c =>
      rw [hr] at hp
      obtain ⟨rfl, ho⟩ := hp
      have hc := read_bad HBB.out hr
      have hc0 : (c != 0) = true := by rw [bne_iff_ne]; omega
      have HOA := Lib.hid (HOB.out.trans ho)
      clear hr ho hc HOB HSB
      go_wp2_with (refine wpList_store_blk rfl 33 (.tmp 12) (.tmp 69) rfl zeroV rfl rfl (Blk.new _ _ _) (by kernel_rfl) (by simp) (by simp [Value.oneCell']) ?_)
      intro wb hB hO2
      have hOr : Only [] wa wb := ((Only.refl [] wa).alloc _).trans' hO2 (fun i hi => .inr (by simp at hi; omega))
      have HB := Lib.hid (show Blk wb wa.heap.size 33 #[iv 0, iv 0, fv 0, .string ⟨#[]⟩, .slice none 0 0] from hB)
      have HOB := Lib.hid (HOA.out.trans hOr)
      clear hB hO2 hOr HOA
      have HQ := Lib.hid (eq_ok _ wb _ _ _ _ _ (zero_vis wb) (zero_vis wb))
      rw [eqV_refl] at HQ
      have p0 := HB.out.cell 0
      have p1 := HB.out.cell 1
      have p2 := HB.out.cell 2
      have p3 := HB.out.cell 3
      have p4 := HB.out.cell 4
      simp at p0 p1 p2 p3 p4
      go_wp2_with fail
      refine HQ.out.mono ?_
      clear HQ p0 p1 p2 p3 p4
      rintro e wc ⟨rfl, ho⟩
      go_wp2
      exact bodyPost_ret (results_tmp rfl _ _ _) rfl ⟨rfl, HOB.out.trans ho⟩
    | ok v2 q rm =>
      rw [hr] at hp
      obtain ⟨cs2, S2, rfl, hvo, hnd, hge, ho⟩ := hp
      obtain ⟨hq, x2, hx2, hk2⟩ := read_back HBB.out hr
      have HOA := Lib.hid (HOB.out.trans ho)
      have HSA := Lib.hid (HSB.out.only ho (fun _ _ => by simp))
      have HX2 := Lib.hid hx2
      have HK2 := Lib.hid hk2
      have HVI := Lib.hid hvo.vis
      obtain ⟨k2, i2, r2, t2, a2, n2, c2, rfl⟩ := hvo.form
      clear hr ho hvo hnd hge hx2 hk2 HOB HSB
      go_wp2_with (refine wpList_store_blk rfl 33 (.tmp 12) (.tmp 69) rfl [iv k2, iv i2, fv r2, .string t2, .slice a2 n2 c2] rfl rfl (Blk.new _ _ _) (by kernel_rfl) (by simp) (by simp [Value.oneCell']) ?_)
      intro wb hB hO2
      have hOr : Only [] wa wb := ((Only.refl [] wa).alloc _).trans' hO2 (fun i hi => .inr (by simp at hi; omega))
      have HB := Lib.hid (show Blk wb wa.heap.size 33 #[iv k2, iv i2, fv r2, .string t2, .slice a2 n2 c2] from hB)
      have HOB := Lib.hid (HOA.out.trans hOr)
      have HSB := Lib.hid (HSA.out.only hOr (fun _ _ => by simp))
      have HQ := Lib.hid (Key_ok (HVI.out.only0 hOr))
      rw [HX2.out] at HQ
      clear hB hO2 hOr HOA HSA HVI
      have p0 := HB.out.cell 0
      have p1 := HB.out.cell 1
      have p2 := HB.out.cell 2
      have p3 := HB.out.cell 3
      have p4 := HB.out.cell 4
      simp at p0 p1 p2 p3 p4
      go_wp2_with fail
      refine HQ.out.mono ?_
      clear HQ p0 p1 p2 p3 p4 HB
      rintro e wc ⟨kv2, rfl, hsl2, _, ho⟩
      have HSC := Lib.hid (HSB.out.only ho (fun _ _ => by simp))
      have HOC := Lib.hid (HOB.out.trans ho)
      have HSL2 := Lib.hid (show Sl wc 5 1 kv2 x2.key.length (x2.key.map bv) from hsl2)
      clear HSB HOB hsl2 ho
      have hqz : (q : Int) ≤ (bs.length : Int) := by omega
      have HBT := Lib.hid (HSC.out.take hq)
      have hb6 : ∀ c ∈ x2.key, c < 256 := key_byte x2
      have HQ := Lib.hid (eqB_ok (bytes_of_sl HSL2.out hb6) HBT.out)
      rw [decide_eq_true HK2.out] at HQ
      clear hb6
      go_wp2_with fail
      refine HQ.out.mono ?_
      clear HQ
      rintro e wd ⟨rfl, ho⟩
      go_wp2
      exact bodyPost_ret (results_tmp rfl _ _ _) rfl ⟨rfl, HOC.out.trans ho⟩
theorem back_row (w : World) {v : V} {cs : List Value} {bs : List Nat} {s : Value} (hv : VIs w (· < w.heap.size) v cs) (hb : BytesV w (· < w.heap.size) bs s) : Calls Try.prog 7 #[.agg cs.toArray, s] w fun e w' => e = .returned (.bool true) ∧ Only [] w w' := back_ok hv hb
end Go.Proofs.Ytffdfegelgpniaa
