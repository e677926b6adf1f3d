/-
  Package crash: After, Number.
-/
import Derived.Test.YthekilgolelomaaLc
import Derived.Test.YthekilgolelomaaDw
set_option linter.unusedSimpArgs false
set_option linter.unusedVariables false
namespace Go.Proofs.Ythekilgolelomaa
open Go.RowKit Go.Fl

theorem after_lv {p : PD} (n : Int) : ∀ x ∈ p.after n, Lv p x.2 :=
  doAll_ids (ids := Lv p) (fun x hx => .inr (.inl ⟨x, hx, rfl⟩)) fun c hc i hi => .inr (.inr ⟨c, List.mem_of_mem_take hc, hi⟩)
theorem crashV_ren {gs fs : Nat → FD} {σ : Nat → Nat} {kp : Nat → Int × List UInt8} {A : Dir} (h : ∀ x ∈ A, gs (σ x.2) = fs x.2) : crashV gs kp (dren σ A) = crashV fs kp A := by
  unfold crashV dren
  apply List.ext_getElem
  · simp
  · intro i h1 h2
    simp only [List.getElem_mapIdx, List.getElem_map]
    have hm := h (A[i]'(by simpa using h2)) (List.getElem_mem (by simpa using h2))
    rw [hm]
theorem kjs_off {w : World} {kv : Value} {ds : List Nat} {F : Nat → Prop} (h : KS w kv (kjs ds)) (hF : ∀ k, F k → w.heap.size ≤ k) : KOff F kv (kjs ds) := by
  refine ⟨fun hn g hg hf => ?_, fun x hx hn g hg => ?_⟩
  · obtain ⟨g', off, cap, e, hl, _⟩ := h.1.form hn
    rw [e] at hg
    injection hg with hg
    have e2 : g' = g := hg
    have := hF g hf
    omega
  · obtain ⟨y, _, rfl⟩ := List.mem_map.1 hx
    cases hg
section
variable {w w' : World} {F G : Nat → Prop} {d : Nat} {p p' : PD} {fs : Nat → FD} {ids : Nat → Prop}
/-- A copy behind the i-th fate. -/
def AfterM (w w' : World) (p : PD) (fs : Nat → FD) (i : Nat) (d' : Nat) : Prop := ∃ F2 p2 fs2 ids2 D, Own w w' F2 d' p2 fs2 ids2 ∧ (∃ σ, p2 = (p.ren σ).crash D) ∧
  view fs2 D = crashV fs (kpat (kjs (digM (tailsM p fs (atM (tailsM p fs) (p.pend.length + 1) 0 i).1) (atM (tailsM p fs) (p.pend.length + 1) 0 i).2).1)) (p.after (atM (tailsM p fs) (p.pend.length + 1) 0 i).1)
set_option maxRecDepth 100000 in
set_option maxHeartbeats 3200000 in
theorem after_in (h0 : DK w F d p fs ids) (hpl : p.pend.length ≤ 1048576) {n : Nat} (hw : waysM p fs = some n) (i : Nat) (hi : i < n) : Calls Try.prog 18 #[cp d, iv i] w fun e w' =>
    ∃ d', e = .returned (.tuple #[cp d', iv 0]) ∧ AfterM w w' p fs i d' := by
  have HA := Lib.hid (at_in h0 hpl hw i hi)
  have H := Lib.hid h0
  have HPL := Lib.hid hpl
  unfold AfterM
  obtain ⟨R, hR⟩ : ∃ R, atM (tailsM p fs) (p.pend.length + 1) 0 i = R := ⟨_, rfl⟩
  rw [hR] at HA ⊢
  obtain ⟨dir, j⟩ := R
  dsimp only at HA ⊢
  obtain ⟨ds, hds⟩ : ∃ ds, (digM (tailsM p fs dir) j).1 = ds := ⟨_, rfl⟩
  rw [hds] at HA ⊢
  clear h0 hpl hw hi hR hds
  go_enter Try.func18, Try.ntmps18
  go_wp2_with fail
  refine HA.out.mono ?_
  rintro e w1 ⟨kv, rfl, hks, ho, hkw⟩
  obtain ⟨ka, kc, hkv, _, _⟩ := hks.1.shape
  subst hkv
  have HO1 := Lib.hid ho
  have HKS := Lib.hid hks
  obtain ⟨M, hM⟩ : ∃ M, (kjs ds).length = M := ⟨_, rfl⟩
  rw [hM] at HKS ⊢
  clear hks ho hkw HA hM
  go_upto_region 2 with fail
  have HF1 := Lib.hid (Blk.new w1 33 #[iv dir, .slice ka M kc])
  obtain ⟨w2, hw2⟩ : ∃ w2, w1.alloc (.cells #[iv dir, .slice ka M kc] 33) = w2 := ⟨_, rfl⟩
  obtain ⟨fb, hfb⟩ : ∃ fb, w1.heap.size = fb := ⟨_, rfl⟩
  have HO2 := Lib.hid (show Only [] w1 w2 from hw2 ▸ (Only.refl [] w1).alloc _)
  rw [hw2, hfb] at HF1
  (try rw [hw2])
  (try rw [hfb])
  have HCP := Lib.hid (copy_ok ((H.out.only0 HO1.out).only0 HO2.out) HPL.out)
  clear hw2 hfb
  go_wp2_with fail
  refine HCP.out.mono ?_
  rintro e w3 ⟨d', rfl, σ, gs, js, hdk, ho, hgs, hinj⟩
  have HD3 := Lib.hid hdk
  have HO3 := Lib.hid ho
  have HGS := Lib.hid hgs
  have HF3 := Lib.hid (HF1.out.only ho (by simp))
  have HKS3 := Lib.hid ((HKS.out.only0 HO2.out).only0 ho)
  have x0 := HF3.out.cell 0
  have x1 := HF3.out.cell 1
  have xl := HF3.out.lt
  simp at x0 x1
  have HCR := Lib.hid (crash_ok HD3.out (by show (p.pend.map (Chg.ren σ)).length ≤ 1048576; rw [List.length_map]; exact HPL.out) dir HKS3.out (kjs_off (HKS.out.only0 HO2.out) fun k hk => hk.1))
  clear hdk ho hgs hinj HCP
  go_wp2_with fail
  refine HCR.out.mono ?_
  rintro e w4 ⟨rfl, D, fs2, ids2, ha, hv, _, _⟩
  have HOW := Lib.hid (show Own w w4 (grow _ w3 w4) d' ((p.ren σ).crash D) fs2 ids2 from Own.step (w0 := w) ⟨HD3.out, ((HO1.out.trans HO2.out).trans HO3.out), fun k hk => Nat.le_trans (HO1.out.trans HO2.out).size hk.1⟩ ha)
  have HV := Lib.hid (show view fs2 D = crashV fs (kpat (kjs ds)) (p.after dir) from by
    rw [hv, PD.after_ren, crashV_ren fun x hx => HGS.out _ (after_lv _ x hx)])
  clear ha hv HCR x0 x1 xl
  go_wp2
  exact bodyPost_ret (results2 rfl (res_tmp rfl) (res_tmp rfl)) rfl ⟨d', rfl, _, _, fs2, ids2, D, HOW.out, ⟨σ, rfl⟩, HV.out⟩
end
/-! ### A fate's number -/
def numK (l : List Nat) (kp : Nat → Int) : Nat → Nat
  | 0 => 0
  | k + 1 => numK l kp k * (l.getD k 0 + 1) + min (kp k).toNat (l.getD k 0)
theorem numK_lt {l : List Nat} {kp : Nat → Int} : ∀ {k c : Nat}, k ≤ l.length → chM (l.take k) 1 = some c → numK l kp k < c
  | 0, c, _, h => by injection h with h; show 0 < c; omega
  | k + 1, c, hk, h => by
    cases hc : chM (l.take k) 1 with
    | none =>
      have h1 := chM_none (l := l.take (k + 1)) (k := k) (by rw [List.take_take, Nat.min_eq_left (by omega)]; exact hc)
      rw [h] at h1
      cases h1
    | some c0 =>
      have h1 := numK_lt (kp := kp) (show k ≤ l.length by omega) hc
      have h2 := chM_step (show k < l.length by omega) hc
      rw [h] at h2
      split at h2
      · cases h2
      · injection h2 with h2
        have hg : l.getD k 0 = l[k] := by rw [List.getD_eq_getElem?_getD, List.getElem?_eq_getElem (by omega)]; rfl
        show numK l kp k * (l.getD k 0 + 1) + min (kp k).toNat (l.getD k 0) < c
        rw [hg, h2]
        have h3 : (numK l kp k + 1) * (l[k] + 1) ≤ c0 * (l[k] + 1) := Nat.mul_le_mul_right _ h1
        rw [Nat.add_mul] at h3
        omega
theorem nm_num {a t k : Nat} (ht : t ≤ 1073741824) (hs : a * (t + 1) + min k t < mostC + 1) :
    wrap64 ((t : Int) + 1) = (t : Int) + 1 ∧ wrap64 ((a : Int) * ((t : Int) + 1)) = ((a * (t + 1) : Nat) : Int) ∧ wrap64 (((a * (t + 1) : Nat) : Int) + ((min k t : Nat) : Int)) = ((a * (t + 1) + min k t : Nat) : Int) := by
  have h7 : mostC = 1099511627776 := rfl
  have h6 : (a : Int) * ((t : Int) + 1) = ((a * (t + 1) : Nat) : Int) := by push_cast; rfl
  refine ⟨wrap_d (by omega), ?_, ?_⟩
  · rw [h6]
    generalize a * (t + 1) = x at hs ⊢
    exact wrap_d (by omega)
  · generalize a * (t + 1) = x at hs ⊢
    generalize min k t = y at hs ⊢
    rw [wrap_d (by omega)]
    omega
section
variable {w w' : World} {F G : Nat → Prop} {d : Nat} {p p' : PD} {fs : Nat → FD} {ids : Nat → Prop}
theorem dir_num (fd : Int) (n : Nat) : min (max fd 0) (n : Int) = ((min fd.toNat n : Nat) : Int) := by omega
def dirM (p : PD) (fd : Int) : Nat := min fd.toNat p.pend.length
/-- The number of the fate that does what a fate does. -/
def numM (p : PD) (fs : Nat → FD) (fd : Int) (kj : List Kp) : Nat := (upM (tailsM p fs) (dirM p fd)).getD 0 + numK (tailsM p fs (dirM p fd)) (fun k => (kpat kj k).1) (tailsM p fs (dirM p fd)).length
set_option maxRecDepth 100000 in
set_option maxHeartbeats 3200000 in
theorem number_ok (h0 : DK w F d p fs ids) (hpl : p.pend.length ≤ 1048576) {n : Nat} (hw : waysM p fs = some n) (fd : Int) {kv : Value} {kj : List Kp} (hk : KS w kv kj) : Calls Try.prog 40 #[cp d, .agg #[iv fd, kv]] w fun e w' =>
    e = .returned (.tuple #[iv (numM p fs fd kj), iv 0]) ∧ Only [] w w' := by
  obtain ⟨ka, kc, hkv, hkc, _⟩ := hk.1.shape
  subst hkv
  have ho : Only [] w (w.alloc (.cells #[iv fd, .slice ka kj.length kc] 33)) := (Only.refl [] w).alloc _
  have HW := Lib.hid (ways_ok (h0.only0 ho) hpl)
  have HWY := Lib.hid (show upM (tailsM p fs) (p.pend.length + 1) = some n from hw)
  rw [hw] at HW
  simp only [Option.getD_some, Option.isSome_some] at HW
  have HB := Lib.hid (Blk.new w 33 #[iv fd, .slice ka kj.length kc])
  obtain ⟨w1, hw1⟩ : ∃ w1, w.alloc (.cells #[iv fd, .slice ka kj.length kc] 33) = w1 := ⟨_, rfl⟩
  obtain ⟨fb, hfb⟩ : ∃ fb, w.heap.size = fb := ⟨_, rfl⟩
  have HO1 := Lib.hid (hw1 ▸ ho)
  rw [hw1, hfb] at HB
  rw [hw1] at HW
  have H1 := Lib.hid (h0.only0 HO1.out)
  have HKS := Lib.hid (hk.only0 HO1.out)
  have HPL := Lib.hid hpl
  obtain ⟨K, hK⟩ : ∃ K, kj.length = K := ⟨_, rfl⟩
  have HK := Lib.hid hK
  rw [hK] at HB hkc HKS hw1 ⊢
  clear h0 hpl hw hk ho hK
  go_enter Try.func40, Try.ntmps40
  go_wp2_with fail
  (try rw [hw1])
  (try rw [hfb])
  refine HW.out.mono ?_
  clear hw1 hfb
  rintro e w2 ⟨rfl, ho⟩
  have HO2 := Lib.hid (HO1.out.trans ho)
  have HB2 := Lib.hid (HB.out.only ho (by simp))
  have H2 := Lib.hid (H1.out.only0 ho)
  have HKS2 := Lib.hid (HKS.out.only0 ho)
  have HPN := Lib.hid (fun wx (hx : Only [] w2 wx) => pending_ok (H2.out.only0 hx))
  have HX := Lib.hid (fun wx (hx : Only [] w2 wx) => show wx.cell? ⟨fb, 0, none⟩ = some (iv fd) ∧ wx.cell? ⟨fb, 1, none⟩ = some (.slice ka K kc) ∧ fb < wx.heap.size from by
    have hb := HB2.out.only hx (by simp)
    exact ⟨hb.cell 0, hb.cell 1, hb.lt⟩)
  obtain ⟨x0, x1, xl⟩ := HX.out w2 (Only.refl _ _)
  have HK0 : w2.cell? ⟨fb, 0, none⟩ = some (iv fd) := x0
  clear ho HW HB H1 HKS
  have HDM := Lib.hid (dir_num fd p.pend.length)
  go_upto_region 4 with fail
  go_cut [8] (fun z8 wx => z8 = .int .i64 (dirM p fd) ∧ Hid (Only [] w2 wx))
  case first =>
    go_region_held3 (fun w' => w'.cell? ⟨fb, 0, none⟩ = some (iv fd)) (first | with_reducible exact HK0 | go_keep) (first
      | (go_at_call 26; refine (HPN.out _ (by first | exact Only.refl _ _ | exact (Only.refl _ _).drew)).mono ?_
         rintro e w3 ⟨rfl, rfl⟩))
    all_goals
      go_wp2_with fail
      go_meet
      case rel => exact ⟨by rw [HDM.out]; rfl, Lib.hid (Only.refl _ _).drew⟩
  clear HK0 x0 x1 xl
  obtain ⟨h8, HOC⟩ := hcut
  subst h8
  obtain ⟨w3, hw3⟩ : ∃ x : World, x = wc := ⟨_, rfl⟩
  subst hw3
  obtain ⟨dir, hdir⟩ : ∃ dir, dirM p fd = dir := ⟨_, rfl⟩
  have HDI := Lib.hid (show dirM p fd = dir ∧ dir ≤ p.pend.length from ⟨hdir, by rw [← hdir]; exact Nat.min_le_right _ _⟩)
  rw [hdir]
  obtain ⟨a0, ha0⟩ := upM_some HWY.out (show dir ≤ p.pend.length + 1 by have := HDI.out.2; omega)
  obtain ⟨b0, hb0⟩ := upM_some HWY.out (show dir + 1 ≤ p.pend.length + 1 by have := HDI.out.2; omega)
  have HCC := Lib.hid (upM_succ ha0 hb0)
  have HUT := Lib.hid (show upM (tailsM p fs) dir = some a0 ∧ a0 + chD (tailsM p fs) dir ≤ mostC from ⟨ha0, by rw [← (upM_succ ha0 hb0).2]; exact upM_le hb0⟩)
  have HTL := Lib.hid (tails_ok (H2.out.only0 HOC.out) HPL.out dir)
  have HTC := Lib.hid (tails_ch H2.out dir)
  clear hdir ha0 hb0 HDM HPN
  go_wp2_with fail
  refine HTL.out.mono ?_
  rintro e w4 ⟨v, rfl, hs, ho, _⟩
  have HTS := Lib.hid (tls_of hs)
  have HO4 := Lib.hid (HOC.out.trans ho)
  obtain ⟨va, vc, hvv, _, _⟩ := hs.shape
  subst hvv
  obtain ⟨L, hL⟩ : ∃ L, (p.after dir).map (fun x => (x.1, (fs x.2).tail.length)) = L := ⟨_, rfl⟩
  have HLT := Lib.hid (show tns L = tailsM p fs dir from by rw [← hL]; exact tns_of fs _)
  have hll : (p.after dir).length = L.length := by rw [← hL, List.length_map]
  rw [hL] at HTS HTC
  rw [hll] at HTS ⊢
  obtain ⟨N, hN⟩ : ∃ N, L.length = N := ⟨_, rfl⟩
  have HN := Lib.hid hN
  rw [hN] at HTS ⊢
  clear hs ho HTL hL hll hN
  go_wp2
  go_loopw [9, 33] (fun z9 z33 wr => ∃ (a k : Nat), z9 = .int .i64 a ∧ z33 = .int .i64 k ∧ Hid (k ≤ N) ∧ Hid (a = numK (tns L) (fun k => (kpat kj k).1) k) ∧ Hid (Only [] w4 wr)) (fun _ z33 _ => N - (intOf z33).toNat)
  case atStart => exact ⟨0, 0, rfl, rfl, Lib.hid (Nat.zero_le _), Lib.hid rfl, Lib.hid (Only.refl _ _)⟩
  case round =>
    obtain ⟨a, k, rfl, rfl, HKN, HA, HOL⟩ := hrel
    have HO := Lib.hid (HO4.out.trans HOL.out)
    by_cases hkl : k < N
    case neg =>
      have hkz : ¬ (k : Int) < (N : Int) := nlt_z hkl
      have HE := Lib.hid (show a = numK (tailsM p fs dir) (fun k => (kpat kj k).1) (tailsM p fs dir).length from by
        have h1 := HA.out
        have h2 : k = N := Nat.le_antisymm HKN.out (Nat.le_of_not_lt hkl)
        rw [h2] at h1
        rw [← HLT.out, h1]
        unfold tns
        rw [List.length_map, HN.out])
      have HUP := Lib.hid (upto_ok (H2.out.only0 HO.out) HPL.out dir (by have := HDI.out.2; have := HPL.out; omega))
      rw [HUT.out.1] at HUP
      simp only [Option.getD_some, Option.isSome_some] at HUP
      have HNL := Lib.hid (show a < chD (tailsM p fs) dir from by
        rw [HE.out]
        exact numK_lt (Nat.le_refl _) (by rw [List.take_length]; exact HCC.out.1))
      have HSM := Lib.hid (show wrap64 ((a0 : Int) + (a : Int)) = ((a0 + a : Nat) : Int) from by
        have h7 : mostC = 1099511627776 := rfl
        rw [wrap_d (by have := HNL.out; have := HUT.out.2; omega)]
        omega)
      clear hkl
      go_wp2_with fail
      refine HUP.out.mono ?_
      rintro e w5 ⟨rfl, ho⟩
      have HO5 := Lib.hid ((HO2.out.trans HO.out).trans ho)
      clear ho HUP
      go_wp2
      refine bodyPost_ret (results2 rfl (res_tmp rfl) (res_tmp rfl)) rfl ⟨?_, HO5.out⟩
      unfold numM
      rw [HDI.out.1, HUT.out.1, ← HE.out]
      (try rw [HSM.out])
      rfl
    have hkz : (k : Int) < (N : Int) := lt_z hkl
    have hka : k < L.length := by rw [HN.out]; exact hkl
    have hvr : Sr wr 2 (.slice va N vc) L.length (L.map fun x => [sk x.1, iv x.2]).flatten := Sr.only0 HTS.out HOL.out
    rw [HN.out] at hvr
    have HVR := Lib.hid hvr
    obtain ⟨g, o, c', hv, hfm⟩ := HVR.out.form (by omega)
    injection hv with hva hvl hvc
    subst hva
    subst hvc
    clear hvl hfm hvr
    have y0 := HVR.out.cells_ _ _ (tls_get L k hka).1
    have y1 := HVR.out.cells_ _ _ (tls_get L k hka).2
    rw [Addr.add_lit] at y0 y1
    rw [← Nat.add_assoc] at y1
    have hbx := HTC.out.1 _ (List.getElem_mem hka)
    have hlx : (tns L).getD k 0 = (L[k]).2 := by
      unfold tns
      rw [List.getD_eq_getElem?_getD, List.getElem?_map, List.getElem?_eq_getElem hka]
      rfl
    obtain ⟨⟨s, t⟩, hx⟩ : ∃ x, L[k] = x := ⟨_, rfl⟩
    rw [hx] at y0 y1 hbx hlx
    dsimp only at y0 y1 hbx hlx
    have HBX := Lib.hid hbx
    have HLX := Lib.hid hlx
    have HKL := Lib.hid hkl
    have HE8 := Lib.hid (wrap_sm (n := N) (by have := HTC.out.2; have := HN.out; omega) hkl)
    have HMS := Lib.hid (meas hkl)
    clear hkl hka hx hbx hlx
    go_upto_region 9 with fail
    have HT5 := Lib.hid (Blk.new wr 77 #[sk s, iv t])
    obtain ⟨w5, hw5⟩ : ∃ w5, wr.alloc (.cells #[sk s, iv t] 77) = w5 := ⟨_, rfl⟩
    obtain ⟨tb, htb⟩ : ∃ tb, wr.heap.size = tb := ⟨_, rfl⟩
    have HO5 := Lib.hid (show Only [] w4 w5 from hw5 ▸ HOL.out.alloc _)
    rw [hw5, htb] at HT5
    (try rw [hw5])
    (try rw [htb])
    obtain ⟨x0, x1, xl⟩ := HX.out w5 (HO4.out.trans HO5.out)
    clear hw5 htb y0 y1 hkz
    obtain ⟨z, hz⟩ : ∃ z, (kpat kj k).1 = z := ⟨_, rfl⟩
    have HZ := Lib.hid hz
    have HMM := Lib.hid (dir_num z t)
    go_upto_if 42 with fail
    go_cut [12] (fun z12 wx => z12 = .int .i64 ((min z.toNat t : Nat) : Int) ∧ Hid (Only [] w5 wx))
    case first =>
      by_cases hkK : k < K
      · have hkZ : (k : Int) < (K : Int) := lt_z hkK
        have hkj : k < kj.length := by rw [HK.out]; exact hkK
        have hzz : (kj[k]).1 = z := by
          rw [← hz]
          unfold kpat
          rw [List.getElem?_eq_getElem hkj]
        have hks : Sr w5 2 (.slice ka K kc) kj.length (kcs kj) := ((HKS2.out.only0 HO4.out).only0 HO5.out).1
        rw [HK.out] at hks
        obtain ⟨g2, o2, c2, hv2, _⟩ := hks.form (by omega)
        injection hv2 with hva2 hvl2 hvc2
        subst hva2
        subst hvc2
        have q0 := hks.cells_ _ _ (kcs_get kj k hkj).1
        rw [Addr.add_lit, hzz] at q0
        have t1 := HT5.out.cell 1
        have tl := HT5.out.lt
        simp at t1
        clear hvl2 hks hkj hzz hkK hz
        go_upto_region 11 with fail
        go_quiet (fail)
        go_wp2_with fail
        go_meet
        case rel => exact ⟨by rw [← HMM.out], Lib.hid (by first | exact Only.refl _ _ | exact (Only.refl _ _).drew | exact (Only.refl _ _).drewN _)⟩
      · have hkZ : ¬ (k : Int) < (K : Int) := nlt_z hkK
        have hz0 : z = 0 := by
          rw [← hz]
          unfold kpat
          rw [List.getElem?_eq_none (by rw [HK.out]; exact Nat.le_of_not_lt hkK)]
        subst hz0
        clear hkK hz
        go_wp2_with fail
        go_meet
        case rel => exact ⟨by simp, Lib.hid (Only.refl _ _)⟩
    clear x0 x1 xl hz HMM
    obtain ⟨h12, HOC2⟩ := hcut
    subst h12
    obtain ⟨w6, hw6⟩ : ∃ x : World, x = wc := ⟨_, rfl⟩
    subst hw6
    have HT6 := Lib.hid (HT5.out.only HOC2.out (by simp))
    have HO6 := Lib.hid (HO5.out.trans HOC2.out)
    have t1 := HT6.out.cell 1
    have tl := HT6.out.lt
    simp at t1
    have hnk : numK (tns L) (fun k => (kpat kj k).1) (k + 1) = a * (t + 1) + min z.toNat t := by
      show numK (tns L) _ k * ((tns L).getD k 0 + 1) + min (kpat kj k).1.toNat ((tns L).getD k 0) = _
      rw [HLX.out, ← HA.out, HZ.out]
    have HNK := Lib.hid hnk
    obtain ⟨q1, q2, q3⟩ : wrap64 ((t : Int) + 1) = (t : Int) + 1 ∧ wrap64 ((a : Int) * ((t : Int) + 1)) = ((a * (t + 1) : Nat) : Int) ∧ wrap64 (((a * (t + 1) : Nat) : Int) + ((min z.toNat t : Nat) : Int)) = ((a * (t + 1) + min z.toNat t : Nat) : Int) := nm_num HBX.out (by
        rw [← hnk]
        cases hc1 : chM ((tns L).take (k + 1)) 1 with
        | none =>
          have h1 := chM_none hc1
          rw [HLT.out, HCC.out.1] at h1
          cases h1
        | some c1 =>
          have h1 := numK_lt (kp := fun k => (kpat kj k).1) (show k + 1 ≤ (tns L).length by unfold tns; rw [List.length_map, HN.out]; exact HKL.out) hc1
          have h2 := chM_le (by decide) hc1
          exact Nat.lt_of_lt_of_le h1 (Nat.le_succ_of_le h2))
    have HQ := Lib.hid (show wrap64 ((a : Int) * ((t : Int) + 1)) = ((a * (t + 1) : Nat) : Int) ∧ wrap64 (((a * (t + 1) : Nat) : Int) + ((min z.toNat t : Nat) : Int)) = ((a * (t + 1) + min z.toNat t : Nat) : Int) from ⟨q2, q3⟩)
    clear hnk q2 q3
    go_wp2
    go_roundw
    case measure => (try rw [HE8.out]); exact HMS.out
    case rel => exact ⟨a * (t + 1) + min z.toNat t, k + 1, by rw [HQ.out.1, HQ.out.2], by first | rfl | rw [HE8.out], Lib.hid HKL.out, Lib.hid HNK.out.symm, HO6⟩
end
end Go.Proofs.Ythekilgolelomaa
