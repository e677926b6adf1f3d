/-
  DiskRenames: the law in plain words, and its walk.
-/
import Derived.Test.YtnickdlpciheiaaEa
set_option linter.unusedSimpArgs false
set_option linter.unusedVariables false
namespace Go.Proofs.Ytnickdlpciheiaa
open Go.RowKit Go.Fl

/-- A file that lasts whole. -/
theorem sync_flat {l : List UInt8} : (FD.mk l [] 0).sync = FD.flat l := by
  unfold FD.sync FD.flat FD.kept FD.bad FD.tail
  simp
theorem flat_left (l : List UInt8) (N : Int) (J : List UInt8) : (FD.flat l).left N J = l := by
  have h1 : (FD.flat l).tail = [] := by unfold FD.flat FD.tail; simp
  have h2 : (FD.flat l).cutN N = 0 := by unfold FD.cutN; rw [h1]; simp; omega
  have h3 : (FD.flat l).junk N J = 0 := by unfold FD.junk; rw [h1]; simp
  unfold FD.left
  rw [h2, h3]
  unfold FD.kept FD.bad
  rw [h1]
  simp [FD.flat]
/-- What stands behind the crash. -/
theorem rn_after (fx fy : Nat) (n : Int) : (doAll [([120], fx)] (([.cr [121] fy, .rn [121] [120]] : List Chg).take n.toNat) = [([120], fx)] ∧ n < 2) ∨
    (doAll [([120], fx)] (([.cr [121] fy, .rn [121] [120]] : List Chg).take n.toNat) = [([120], fx), ([121], fy)] ∧ n < 2) ∨
    (doAll [([120], fx)] (([.cr [121] fy, .rn [121] [120]] : List Chg).take n.toNat) = [([120], fy)] ∧ 2 ≤ n) := by
  obtain ⟨k, hk⟩ : ∃ k, n.toNat = k := ⟨_, rfl⟩
  rw [hk]
  match k, hk with
  | 0, hk => exact .inl ⟨rfl, by omega⟩
  | 1, hk => exact .inr (.inl ⟨rfl, by omega⟩)
  | k + 2, hk => exact .inr (.inr ⟨by rw [List.take_of_length_le (by simp)]; rfl, by omega⟩)
theorem view_two {fs : Nat → FD} {D : Dir} {s t : Nm} {x y : FD} (h : view fs D = [(s, x), (t, y)]) : ∃ g k, D = [(s, g), (t, k)] ∧ fs g = x ∧ fs k = y := by
  unfold view at h
  match D, h with
  | [(s', g), (t', k)], h =>
    injection h with h h2
    injection h2 with h2 _
    injection h with h1 h3
    injection h2 with h4 h5
    exact ⟨g, k, by rw [← h1, ← h4], h3, h5⟩
/-- Behind the crash: one name or two, 'x' leads to all of l. -/
def RnEnd (D : Dir) (fs : Nat → FD) (l : List UInt8) (one : Bool) : Prop := ∃ g, D.get [120] = some g ∧ fs g = FD.flat l ∧ (one = true → D.length = 1)
theorem rn_end {fs fs' : Nat → FD} {D : Dir} {fx fy : Nat} {old new : List UInt8} {kp : Nat → Int × List UInt8} {n : Int} (hx : fs fx = FD.flat old) (hy : fs fy = FD.flat new)
    (hv : view fs' D = crashV fs kp (doAll [([120], fx)] (([.cr [121] fy, .rn [121] [120]] : List Chg).take n.toNat))) : RnEnd D fs' (if 2 ≤ n then new else old) (decide (2 ≤ n)) := by
  rcases rn_after fx fy n with ⟨e, h⟩ | ⟨e, h⟩ | ⟨e, h⟩
  · rw [e, show crashV fs kp [([120], fx)] = [([120], FD.flat ((fs fx).left (kp 0).1 (kp 0).2))] from rfl, hx, flat_left] at hv
    obtain ⟨g, rfl, hg⟩ := view_one hv
    rw [if_neg (by omega)]
    exact ⟨g, rfl, hg, fun _ => rfl⟩
  · rw [e, show crashV fs kp [([120], fx), ([121], fy)] = [([120], FD.flat ((fs fx).left (kp 0).1 (kp 0).2)), ([121], FD.flat ((fs fy).left (kp 1).1 (kp 1).2))] from rfl, hx, flat_left] at hv
    obtain ⟨g, k, rfl, hg, _⟩ := view_two hv
    rw [if_neg (by omega)]
    exact ⟨g, rfl, hg, fun h2 => by simp at h2; omega⟩
  · rw [e, show crashV fs kp [([120], fy)] = [([120], FD.flat ((fs fy).left (kp 0).1 (kp 0).2))] from rfl, hy, flat_left] at hv
    obtain ⟨g, rfl, hg⟩ := view_one hv
    rw [if_pos h]
    exact ⟨g, rfl, hg, fun _ => rfl⟩
theorem rn_end1 {fs fs' : Nat → FD} {D : Dir} {fy : Nat} {new : List UInt8} {kp : Nat → Int × List UInt8} {n : Int} (hy : fs fy = FD.flat new)
    (hv : view fs' D = crashV fs kp (doAll [([120], fy)] (([] : List Chg).take n.toNat))) : RnEnd D fs' new true := by
  rw [List.take_nil, show doAll [([120], fy)] [] = [([120], fy)] from rfl, show crashV fs kp [([120], fy)] = [([120], FD.flat ((fs fy).left (kp 0).1 (kp 0).2))] from rfl, hy, flat_left] at hv
  obtain ⟨g, rfl, hg⟩ := view_one hv
  exact ⟨g, rfl, hg, fun _ => rfl⟩
theorem flat_read (l : List UInt8) : (((FD.flat l).b.drop 0).take l.length) = l := by
  show (l.drop 0).take l.length = l
  rw [List.drop_zero, List.take_length]
theorem rn_size {w wr : World} {d : Nat} {m : Int} {D last : Dir} {pend : List Chg} {fs : Nat → FD} {L : List UInt8} {g : Nat} (h : OC w wr d m D last pend fs) (hg : D.get [120] = some g) (hf : fs g = FD.flat L) : Calls Try.prog 13 #[cp d, sk [120]] wr fun e w' => e = .returned (.tuple #[iv L.length, iv 0]) ∧ w' = wr := by
  have := oc_size h (s := [120]) rfl hg
  rw [hf] at this
  exact this
theorem rn_read {w wr : World} {d : Nat} {m : Int} {D last : Dir} {pend : List Chg} {fs : Nat → FD} {L : List UInt8} {g : Nat} (h : OC w wr d m D last pend fs) (hg : D.get [120] = some g) (hf : fs g = FD.flat L) : Calls Try.prog 17 #[cp d, sk [120], iv 0, iv L.length] wr fun e w' =>
    ∃ v, e = .returned (.tuple #[v, iv 0]) ∧ Sr w' 1 v L.length (byV L) ∧ Only [] wr w' := by
  refine (oc_read h (s := [120]) rfl hg (o := 0) (n := L.length) (by rw [hf]; simp [FD.flat])).mono ?_
  rintro e w' ⟨v, rfl, hs, ho, _⟩
  rw [hf, flat_read] at hs
  exact ⟨v, rfl, hs.sr, ho⟩
set_option maxRecDepth 100000 in
set_option maxHeartbeats 6400000 in
theorem renames_ok (w : World) {old new : List UInt8} {vo vn : Value} (ho : Sr w 1 vo old.length (byV old)) (hn : Sr w 1 vn new.length (byV new)) (sync : Bool) (dn : Int) {kv : Value} {kj : List Kp} (hk : KS w kv kj) :
    Calls Try.prog 6 #[vo, vn, .bool sync, .agg #[iv dn, kv]] w fun e w' => e = .returned (.bool true) ∧ Only [] w w' := by
  have HVO := Lib.hid ho
  have HVN := Lib.hid hn
  have HKS := Lib.hid hk
  obtain ⟨oa, oc, hov, _, _⟩ := ho.shape
  obtain ⟨na, nc, hnv, _, _⟩ := hn.shape
  obtain ⟨ka, kc, hkv, _, _⟩ := hk.1.shape
  subst hov
  subst hnv
  subst hkv
  clear ho hn hk
  by_cases h1 : 5000 < old.length
  · have h1z : 5000 < (old.length : Int) := by omega
    generalize (Value.slice ka kj.length kc) = kv at HKS ⊢
    go_enter Try.func6, Try.ntmps6
    go_wp2_with fail
    refine (begun_ok _).mono ?_
    rintro e w1 ⟨rfl, ho⟩
    have HO := Lib.hid (((Only.refl [] w).alloc (.cells #[iv dn, kv] 43)).trans ho)
    clear ho
    go_wp2
    exact bodyPost_ret (results_tmp rfl _ _ _) rfl ⟨rfl, HO.out⟩
  have h1z : ¬ 5000 < (old.length : Int) := by omega
  by_cases h2 : 5000 < new.length
  · have h2z : 5000 < (new.length : Int) := by omega
    generalize (Value.slice ka kj.length kc) = kv at HKS ⊢
    go_enter Try.func6, Try.ntmps6
    go_wp2_with fail
    refine (begun_ok _).mono ?_
    rintro e w1 ⟨rfl, ho⟩
    have HO := Lib.hid (((Only.refl [] w).alloc (.cells #[iv dn, kv] 43)).trans ho)
    clear ho
    go_wp2
    exact bodyPost_ret (results_tmp rfl _ _ _) rfl ⟨rfl, HO.out⟩
  have h2z : ¬ 5000 < (new.length : Int) := by omega
  have HLO := Lib.hid (show old.length ≤ 5000 by omega)
  have HLN := Lib.hid (show new.length ≤ 5000 by omega)
  obtain ⟨kv, hkv⟩ : ∃ kv, Value.slice ka kj.length kc = kv := ⟨_, rfl⟩
  rw [hkv] at HKS ⊢
  have HKV := Lib.hid hkv
  clear h1 h2 hkv
  have HB0 := Lib.hid (Blk.new w 43 #[iv dn, kv])
  go_enter Try.func6, Try.ntmps6
  go_wp2_with fail
  refine (begun_ok _).mono ?_
  rintro e w1 ⟨rfl, ho⟩
  have HO1 := Lib.hid (((Only.refl [] w).alloc (.cells #[iv dn, kv] 43)).trans ho)
  have HFB := Lib.hid (HB0.out.only ho (by simp))
  obtain ⟨fb, hfb⟩ : ∃ fb, w.heap.size = fb := ⟨_, rfl⟩
  rw [hfb] at HFB ⊢
  replace HVO := Lib.hid (HVO.out.only0 HO1.out)
  replace HVN := Lib.hid (HVN.out.only0 HO1.out)
  replace HKS := Lib.hid (HKS.out.only0 HO1.out)
  clear ho hfb HB0
  go_wp2_with fail
  refine (oc_new w1 w1 (Only.refl _ _) 65536 (by decide) (by decide)).mono ?_
  rintro e w2 ⟨d, rfl, hc⟩
  have H2 := Lib.hid hc
  clear hc
  go_wp2_with fail
  refine (oc_create H2.out (s := [120]) (by decide) rfl rfl (by decide)).mono ?_
  rintro e w3 ⟨rfl, fx, hc, _, _⟩
  have H3 := Lib.hid (show OC w1 w3 d 65536 [([120], fx)] [] [.cr [120] fx] (upd (fun _ => ⟨[], [], 0⟩) fx ⟨[], [], 0⟩) from hc)
  have HF3 := Lib.hid (show (upd (fun _ => FD.mk [] [] 0) fx ⟨[], [], 0⟩) fx = ⟨[], [], 0⟩ from upd_at _ _ _)
  clear hc H2
  generalize (upd (fun _ => FD.mk [] [] 0) fx ⟨[], [], 0⟩) = fs3 at H3 HF3
  go_wp2_with fail
  refine (oc_append H3.out (s := [120]) (f := fx) rfl rfl HVO.out (by have := HLO.out; omega) (by unfold lens; simp [HF3.out]; have := HLO.out; omega)).mono ?_
  rintro e w4 ⟨rfl, hc⟩
  have H4 := Lib.hid hc
  rw [HF3.out] at H4
  have HF4 := Lib.hid (show (upd fs3 fx (FD.mk ([] ++ old) [] 0)) fx = ⟨old, [], 0⟩ from upd_at _ _ _)
  clear hc H3 HF3
  dsimp only at H4
  generalize (upd fs3 fx (FD.mk ([] ++ old) [] 0)) = fs4 at H4 HF4
  go_wp2_with fail
  refine (oc_sync H4.out (s := [120]) (f := fx) rfl rfl).mono ?_
  rintro e w5 ⟨rfl, hc⟩
  have H5 := Lib.hid hc
  have HF5 := Lib.hid (show (upd fs4 fx (fs4 fx).sync) fx = FD.flat old from by rw [upd_at, HF4.out, sync_flat])
  clear hc H4 HF4
  generalize (upd fs4 fx (fs4 fx).sync) = fs5 at H5 HF5
  go_wp2_with fail
  refine (oc_sdir H5.out (by simp)).mono ?_
  rintro e w6 ⟨rfl, hc⟩
  have H6 := Lib.hid hc
  clear hc H5
  go_wp2_with fail
  refine (oc_create H6.out (s := [121]) (by simp) rfl rfl (by simp)).mono ?_
  rintro e w7 ⟨rfl, fy, hc, hne, _⟩
  have HNE := Lib.hid (show fx ≠ fy from hne ([120], fx) (by simp))
  have H7 := Lib.hid (show OC w1 w7 d 65536 [([120], fx), ([121], fy)] [([120], fx)] [.cr [121] fy] (upd fs5 fy ⟨[], [], 0⟩) from hc)
  have HX7 := Lib.hid (show (upd fs5 fy ⟨[], [], 0⟩) fx = FD.flat old from by rw [upd_ne _ _ HNE.out, HF5.out])
  have HY7 := Lib.hid (show (upd fs5 fy ⟨[], [], 0⟩) fy = ⟨[], [], 0⟩ from upd_at _ _ _)
  clear hc hne H6 HF5
  generalize (upd fs5 fy ⟨[], [], 0⟩) = fs7 at H7 HX7 HY7
  go_wp2_with fail
  refine (oc_append H7.out (s := [121]) (f := fy) rfl rfl HVN.out (by have := HLN.out; omega) (by unfold lens; simp [HX7.out, HY7.out, FD.flat]; have := HLO.out; have := HLN.out; omega)).mono ?_
  rintro e w8 ⟨rfl, hc⟩
  have H8 := Lib.hid hc
  rw [HY7.out] at H8
  dsimp only at H8
  have HX8 := Lib.hid (show (upd fs7 fy (FD.mk ([] ++ new) [] 0)) fx = FD.flat old from by rw [upd_ne _ _ HNE.out, HX7.out])
  have HY8 := Lib.hid (show (upd fs7 fy (FD.mk ([] ++ new) [] 0)) fy = ⟨new, [], 0⟩ from upd_at _ _ _)
  clear hc H7 HX7 HY7
  generalize (upd fs7 fy (FD.mk ([] ++ new) [] 0)) = fs8 at H8 HX8 HY8
  go_wp2_with fail
  refine (oc_sync H8.out (s := [121]) (f := fy) rfl rfl).mono ?_
  rintro e w9 ⟨rfl, hc⟩
  have H9 := Lib.hid hc
  have HX9 := Lib.hid (show (upd fs8 fy (fs8 fy).sync) fx = FD.flat old from by rw [upd_ne _ _ HNE.out, HX8.out])
  have HY9 := Lib.hid (show (upd fs8 fy (fs8 fy).sync) fy = FD.flat new from by rw [upd_at, HY8.out, sync_flat])
  clear hc H8 HX8 HY8
  generalize (upd fs8 fy (fs8 fy).sync) = fs9 at H9 HX9 HY9
  go_wp2_with fail
  refine (oc_rename H9.out (by simp) (s := [121]) (t := [120]) (f := fy) rfl rfl rfl (by decide)).mono ?_
  rintro e w10 ⟨rfl, hc⟩
  have H10 := Lib.hid (show OC w1 w10 d 65536 [([120], fy)] [([120], fx)] [.cr [121] fy, .rn [121] [120]] fs9 from hc)
  clear hc H9
  cases sync with
  | true =>
    go_wp2_with fail
    refine (oc_sdir H10.out (by simp)).mono ?_
    rintro e w11 ⟨rfl, hc⟩
    have H11 := Lib.hid hc
    clear hc H10
    have hfb := HFB.out.only H11.out.only (by simp)
    have c0 := hfb.cell 0
    have c1 := hfb.cell 1
    have xl := hfb.lt
    simp at c0 c1
    clear hfb
    go_wp2_with fail
    refine (oc_crash H11.out (by simp) dn HKS.out).mono ?_
    rintro e w12 ⟨rfl, D, fs', hc, hv⟩
    obtain ⟨g, hg, hf, h1⟩ := rn_end1 HY9.out hv
    have HC := Lib.hid hc
    have HG := Lib.hid (show D.get [120] = some g ∧ fs' g = FD.flat new from ⟨hg, hf⟩)
    have HG1 := Lib.hid (h1 rfl)
    clear hc hv hg hf h1 H11 c0 c1 xl
    go_wp2_with fail
    refine (rn_size HC.out HG.out.1 HG.out.2).mono ?_
    rintro e w14 ⟨rfl, rfl⟩
    go_wp2_with fail
    refine (rn_read HC.out HG.out.1 HG.out.2).mono ?_
    rintro e w15 ⟨v15, rfl, hs15, ho15⟩
    have HC15 := Lib.hid (HC.out.quiet ho15)
    have HS15 := Lib.hid hs15
    have HFB15 := Lib.hid (HFB.out.only HC15.out.only (by simp))
    clear hs15 ho15
    go_wp2_with fail
    refine (oc_list HC15.out).mono ?_
    rintro e w16 ⟨v16, rfl, hs16, ho16, _⟩
    obtain ⟨la, lc, hlv, _, _⟩ := hs16.shape
    subst hlv
    have HS16 := Lib.hid (HS15.out.only0 ho16)
    have HO16 := Lib.hid (HC15.out.quiet ho16).only
    have HEQ := Lib.hid (eqb_ok w16 HS16.out (HVN.out.only0 HO16.out) (by have := HLN.out; omega))
    rw [show decide (new = new) = true from decide_eq_true rfl] at HEQ
    clear hs16 ho16
    rw [HG1.out]
    go_wp2_with fail
    refine HEQ.out.mono ?_
    rintro e w17 ⟨rfl, ho17⟩
    have HE := Lib.hid (HO1.out.trans (HO16.out.trans ho17))
    clear ho17
    go_wp2
    exact bodyPost_ret (results_tmp rfl _ _ _) rfl ⟨rfl, HE.out⟩
  | false =>
    have hfb := HFB.out.only H10.out.only (by simp)
    have c0 := hfb.cell 0
    have c1 := hfb.cell 1
    have xl := hfb.lt
    simp at c0 c1
    clear hfb
    go_wp2_with fail
    refine (oc_crash H10.out (by simp) dn HKS.out).mono ?_
    rintro e w12 ⟨rfl, D, fs', hc, hv⟩
    obtain ⟨g, hg, hf, h1⟩ := rn_end HX9.out HY9.out hv
    have HC := Lib.hid hc
    clear hc hv H10 c0 c1 xl
    by_cases hdn : 2 ≤ dn
    · rw [if_pos hdn] at hf
      have HG := Lib.hid (show D.get [120] = some g ∧ fs' g = FD.flat new from ⟨hg, hf⟩)
      have HG1 := Lib.hid (h1 (decide_eq_true hdn))
      clear hg hf h1
      go_wp2_with fail
      refine (rn_size HC.out HG.out.1 HG.out.2).mono ?_
      rintro e w14 ⟨rfl, rfl⟩
      go_wp2_with fail
      refine (rn_read HC.out HG.out.1 HG.out.2).mono ?_
      rintro e w15 ⟨v15, rfl, hs15, ho15⟩
      have HC15 := Lib.hid (HC.out.quiet ho15)
      have HS15 := Lib.hid hs15
      have HFB15 := Lib.hid (HFB.out.only HC15.out.only (by simp))
      clear hs15 ho15
      have c0 := HFB15.out.cell 0
      have xl := HFB15.out.lt
      simp at c0
      go_wp2_with fail
      refine (oc_list HC15.out).mono ?_
      rintro e w16 ⟨v16, rfl, hs16, ho16, _⟩
      obtain ⟨la, lc, hlv, _, _⟩ := hs16.shape
      subst hlv
      have HS16 := Lib.hid (HS15.out.only0 ho16)
      have HO16 := Lib.hid (HC15.out.quiet ho16).only
      have HEQ := Lib.hid (eqb_ok w16 HS16.out (HVN.out.only0 HO16.out) (by have := HLN.out; omega))
      rw [show decide (new = new) = true from decide_eq_true rfl] at HEQ
      clear hs16 ho16
      rw [HG1.out]
      go_wp2_with fail
      refine HEQ.out.mono ?_
      rintro e w17 ⟨rfl, ho17⟩
      have HE := Lib.hid (HO1.out.trans (HO16.out.trans ho17))
      clear ho17
      go_wp2
      exact bodyPost_ret (results_tmp rfl _ _ _) rfl ⟨rfl, HE.out⟩
    · rw [if_neg hdn] at hf
      have HG := Lib.hid (show D.get [120] = some g ∧ fs' g = FD.flat old from ⟨hg, hf⟩)
      clear hg hf h1
      go_wp2_with fail
      refine (rn_size HC.out HG.out.1 HG.out.2).mono ?_
      rintro e w14 ⟨rfl, rfl⟩
      go_wp2_with fail
      refine (rn_read HC.out HG.out.1 HG.out.2).mono ?_
      rintro e w15 ⟨v15, rfl, hs15, ho15⟩
      have HC15 := Lib.hid (HC.out.quiet ho15)
      have HS15 := Lib.hid hs15
      have HFB15 := Lib.hid (HFB.out.only HC15.out.only (by simp))
      clear hs15 ho15
      have c0 := HFB15.out.cell 0
      have xl := HFB15.out.lt
      simp at c0
      have HEQ := Lib.hid (eqb_ok w15 HS15.out (HVO.out.only0 HC15.out.only) (by have := HLO.out; omega))
      rw [show decide (old = old) = true from decide_eq_true rfl] at HEQ
      go_wp2_with fail
      refine HEQ.out.mono ?_
      rintro e w17 ⟨rfl, ho17⟩
      have HE := Lib.hid (HO1.out.trans (HC15.out.only.trans ho17))
      clear ho17
      go_wp2
      exact bodyPost_ret (results_tmp rfl _ _ _) rfl ⟨rfl, HE.out⟩
end Go.Proofs.Ytnickdlpciheiaa
