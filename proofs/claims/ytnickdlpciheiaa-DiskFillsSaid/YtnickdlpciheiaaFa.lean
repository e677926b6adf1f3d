/-
  DiskFills: the law in plain words, and its walk.
-/
import Derived.Test.YtnickdlpciheiaaEa
import Derived.Test.YtnickdlpciheiaaOa
set_option linter.unusedSimpArgs false
set_option linter.unusedVariables false
namespace Go.Proofs.Ytnickdlpciheiaa
open Go.RowKit Go.Fl

/-! ### The law in plain words -/
/-- A disk with two files, which hold so many bytes. -/
structure FI (p : PD) (fs : Nat → FD) (fa fb : Nat) (m left a : Nat) : Prop where
  up : p.up = true
  most : p.most = m
  flt : p.faults = []
  now : p.now = [([97], fa), ([98], fb)]
  ne : fa ≠ fb
  la : (fs fa).b.length = a
  sum : a + (fs fb).b.length + left = m
section
variable {p : PD} {fs : Nat → FD} {fa fb m left a : Nat}
theorem FI.find_a (h : FI p fs fa fb m left a) : findR p [97] = (some fa, 0) := by
  unfold findR
  rw [h.up, h.now]
  rfl
theorem FI.find_b (h : FI p fs fa fb m left a) : findR p [98] = (some fb, 0) := by
  unfold findR
  rw [h.up, h.now]
  rfl
theorem FI.room (h : FI p fs fa fb m left a) : p.room fs = left := by
  unfold PD.room
  have h1 : lens fs p.now = ((a + (fs fb).b.length : Nat) : Int) := by
    rw [h.now]
    unfold lens
    simp [h.la]
  have h2 := h.sum
  rw [h1, h.most]
  omega
theorem FI.fit (h : FI p fs fa fb m left a) (L : Nat) : p.fit fs L = ((min left L : Nat) : Int) := by
  unfold PD.fit
  rw [no_flt h.flt, h.room]
  simp
  omega
theorem FI.app (h : FI p fs fa fb m left a) (L : Nat) : appR (p.op .ap).flt (p.fit fs L) L = if min left L < L then 21 else 0 := by
  rw [no_flt h.flt, h.fit]
  unfold appR befR
  simp only [Int.ofNat_lt]
  simp
theorem FI.put_a (h : FI p fs fa fb m left a) (data : List UInt8) : FI (((p.op .ap).byte (p.fit fs data.length)).bef (p.op .ap).flt) (upd fs fa { fs fa with b := (fs fa).b ++ data.take (p.fit fs data.length).toNat }) fa fb m (left - min left data.length) (a + min left data.length) := by
  have hb : ((p.op .ap).byte (p.fit fs data.length)).bef (p.op .ap).flt = (p.op .ap).byte (p.fit fs data.length) := by rw [no_flt h.flt]; rfl
  rw [hb, h.fit]
  refine ⟨h.up, h.most, h.flt, h.now, h.ne, ?_, ?_⟩
  · rw [upd_at]
    simp [h.la]
  · rw [upd_ne _ _ h.ne.symm]
    have := h.sum
    omega
theorem FI.put_b (h : FI p fs fa fb m left a) (data : List UInt8) : FI (((p.op .ap).byte (p.fit fs data.length)).bef (p.op .ap).flt) (upd fs fb { fs fb with b := (fs fb).b ++ data.take (p.fit fs data.length).toNat }) fa fb m (left - min left data.length) a := by
  have hb : ((p.op .ap).byte (p.fit fs data.length)).bef (p.op .ap).flt = (p.op .ap).byte (p.fit fs data.length) := by rw [no_flt h.flt]; rfl
  rw [hb, h.fit]
  refine ⟨h.up, h.most, h.flt, h.now, h.ne, ?_, ?_⟩
  · rw [upd_ne _ _ h.ne]
    exact h.la
  · rw [upd_at]
    have := h.sum
    simp
    omega
theorem FI.append_a (h : FI p fs fa fb m left a) (data : List UInt8) : ∃ p' fs', p.append fs [97] data = ((((min left data.length : Nat) : Int), if min left data.length < data.length then 21 else 0), p', fs') ∧ p'.pend = p.pend ∧ FI p' fs' fa fb m (left - min left data.length) (a + min left data.length) := by
  unfold PD.append
  rw [h.find_a]
  dsimp only
  rw [h.app]
  refine ⟨_, _, by rw [h.fit], ?_, h.put_a data⟩
  rw [no_flt h.flt]
  rfl
theorem FI.append_b (h : FI p fs fa fb m left a) (data : List UInt8) : ∃ p' fs', p.append fs [98] data = ((((min left data.length : Nat) : Int), if min left data.length < data.length then 21 else 0), p', fs') ∧ p'.pend = p.pend ∧ FI p' fs' fa fb m (left - min left data.length) a := by
  unfold PD.append
  rw [h.find_b]
  dsimp only
  rw [h.app]
  refine ⟨_, _, by rw [h.fit], ?_, h.put_b data⟩
  rw [no_flt h.flt]
  rfl
theorem FI.remove (h : FI p fs fa fb m left a) : ∃ p', p.remove [97] = (0, p') ∧ p'.faults = [] ∧ p'.pend.length = p.pend.length + 1 ∧
    ∀ g, g ≠ fb → ∃ p2, p'.create [97] g = (0, p2, true) ∧ p2.pend.length = p.pend.length + 2 ∧ FI p2 (upd fs g ⟨[], [], 0⟩) g fb m (left + a) 0 := by
  refine ⟨(p.op .rm).chg (.rm [97]), ?_, h.flt, by simp [PD.chg, PD.op], fun g hg => ⟨(((p.op .rm).chg (.rm [97])).op .cr).chg (.cr [97] g), ?_, by simp [PD.chg, PD.op], ?_⟩⟩
  · unfold PD.remove
    rw [h.find_a]
    unfold PD.chg0
    rw [no_flt h.flt]
    rfl
  · have hn : ((p.op .rm).chg (.rm [97])).now = [([98], fb)] := by
      show (p.now.del [97]) = _
      rw [h.now]
      rfl
    have hf : findR ((p.op .rm).chg (.rm [97])) [97] = (none, 6) := by
      unfold findR
      rw [show ((p.op .rm).chg (.rm [97])).up = true from h.up, hn]
      rfl
    unfold PD.create
    rw [hf, hn, no_flt (p := (p.op .rm).chg (.rm [97])) h.flt]
    rfl
  · refine ⟨h.up, h.most, h.flt, ?_, hg, by rw [upd_at]; rfl, ?_⟩
    · show (p.now.del [97]).put [97] g = _
      rw [h.now]
      rfl
    · rw [upd_ne _ _ hg.symm]
      have := h.sum
      omega
theorem FI.size (h : FI p fs fa fb m left a) : p.size fs [97] = ((a : Int), 0) := by
  unfold PD.size
  rw [h.find_a]
  dsimp only
  rw [h.la]
/-- Two files are laid. -/
theorem FI.begin {m fa fb : Nat} (hne : fa ≠ fb) : (PD.new m).create [97] fa = (0, ((PD.new m).op .cr).chg (.cr [97] fa), true) ∧ (((PD.new m).op .cr).chg (.cr [97] fa)).create [98] fb = (0, ((((PD.new m).op .cr).chg (.cr [97] fa)).op .cr).chg (.cr [98] fb), true) ∧
    FI (((((PD.new m).op .cr).chg (.cr [97] fa)).op .cr).chg (.cr [98] fb)) (upd (upd (fun _ => ⟨[], [], 0⟩) fa ⟨[], [], 0⟩) fb ⟨[], [], 0⟩) fa fb m m 0 := by
  refine ⟨rfl, rfl, rfl, rfl, rfl, rfl, hne, ?_, ?_⟩
  · rw [upd_ne _ _ hne, upd_at]
    rfl
  · rw [upd_at]
    simp
end
/-- What holds in the loop. -/
def FIW (w wr : World) (d m left a k : Nat) : Prop := ∃ F p fs ids fa fb, Own w wr F d p fs ids ∧ FI p fs fa fb m left a ∧ p.pend.length ≤ 2 + 2 * k
theorem FIW.quiet {w wr w' : World} {d m left a k : Nat} (h : FIW w wr d m left a k) (ho : Only [] wr w') : FIW w w' d m left a k := by
  obtain ⟨F, p, fs, ids, fa, fb, h1, h2⟩ := h
  exact ⟨F, p, fs, ids, fa, fb, h1.quiet ho, h2⟩
theorem fiw_append {w wr : World} {d m left a k : Nat} (h : FIW w wr d m left a k) (isB : Bool) {v : Value} {l : List UInt8} (hv : Sr w 1 v l.length (byV l)) (hl : l.length ≤ 16384) :
    Calls Try.prog 11 #[cp d, sk (if isB then [98] else [97]), v] wr fun e w' => e = .returned (.tuple #[iv (min left l.length : Nat), iv (if min left l.length < l.length then 21 else 0)]) ∧ FIW w w' d m (left - min left l.length) (if isB then a else a + min left l.length) k := by
  obtain ⟨F, p, fs, ids, fa, fb, h1, h2, h3⟩ := h
  have hc : p.calm := calm_nil h2.flt
  have hoff := Go.Proofs.Ytnickdlpciheiaa.Sr.off0 hv h1.own
  cases isB with
  | false =>
    refine (append_ok h1.dk hc [97] (hv.only0 h1.only) hoff (by omega)).mono ?_
    obtain ⟨p', fs', e, hp, hi⟩ := h2.append_a l
    rintro e w' ⟨rfl, ha⟩
    rw [‹p.append fs [97] l = _›] at ha ⊢
    exact ⟨rfl, _, _, _, _, _, _, h1.step ha, hi, by rw [hp]; exact h3⟩
  | true =>
    refine (append_ok h1.dk hc [98] (hv.only0 h1.only) hoff (by omega)).mono ?_
    obtain ⟨p', fs', e, hp, hi⟩ := h2.append_b l
    rintro e w' ⟨rfl, ha⟩
    rw [‹p.append fs [98] l = _›] at ha ⊢
    exact ⟨rfl, _, _, _, _, _, _, h1.step ha, hi, by rw [hp]; exact h3⟩
/-- Behind Remove, ahead of Create. -/
def FIR (w wr : World) (d m left a k : Nat) : Prop := ∃ F p fs ids fb, Own w wr F d p fs ids ∧ p.faults = [] ∧ p.pend.length ≤ 1048576 ∧ fb < wr.heap.size ∧ ∀ g, g ≠ fb → ∃ p2, p.create [97] g = (0, p2, true) ∧ p2.pend.length ≤ 2 + 2 * (k + 1) ∧ FI p2 (upd fs g ⟨[], [], 0⟩) g fb m (left + a) 0
theorem fiw_remove {w wr : World} {d m left a k : Nat} (h : FIW w wr d m left a k) (hk : k ≤ 100) : Calls Try.prog 12 #[cp d, sk [97]] wr fun e w' => e = .returned (iv 0) ∧ FIR w w' d m left a k := by
  obtain ⟨F, p, fs, ids, fa, fb, h1, h2, h3⟩ := h
  obtain ⟨p', e, hf, hp, hcr⟩ := h2.remove
  refine (remove_ok h1.dk (calm_nil h2.flt) (by omega) [97]).mono ?_
  rintro e w' ⟨rfl, ha⟩
  rw [‹p.remove [97] = _›] at ha ⊢
  have hfb : ids fb := by
    obtain ⟨f, hf2, _, hi⟩ := find_dk_some h1.dk (s := [98]) (by rw [h2.find_b])
    rw [h2.find_b] at hf2
    injection hf2 with hf2
    injection hf2 with hf2
    rw [hf2]
    exact hi
  have hlt : fb < wr.heap.size := by
    obtain ⟨⟨nb, lb, pv, fv, bv, lv, hd⟩, _⟩ := h1.dk
    exact (hd.fs.file fb hfb).blk.lt
  refine ⟨rfl, _, _, _, _, fb, h1.step ha, hf, by rw [hp]; omega, Nat.lt_of_lt_of_le hlt ha.2.size, fun g hg => ?_⟩
  obtain ⟨p2, c1, c2, c3⟩ := hcr g hg
  exact ⟨p2, c1, by omega, c3⟩
theorem fir_create {w wr : World} {d m left a k : Nat} (h : FIR w wr d m left a k) : Calls Try.prog 10 #[cp d, sk [97]] wr fun e w' => e = .returned (iv 0) ∧ FIW w w' d m (left + a) 0 (k + 1) := by
  obtain ⟨F, p, fs, ids, fb, h1, hf, hp, hlt, hcr⟩ := h
  refine (create_ok h1.dk (calm_nil hf) hp [97]).mono ?_
  rintro e w' ⟨g, hg, rfl, ha⟩
  obtain ⟨p2, c1, c2, c3⟩ := hcr g (by omega)
  rw [c1] at ha ⊢
  exact ⟨rfl, _, _, _, _, _, _, h1.step ha, c3, c2⟩
theorem fiw_size {w wr : World} {d m left a k : Nat} (h : FIW w wr d m left a k) : Calls Try.prog 13 #[cp d, sk [97]] wr fun e w' => e = .returned (.tuple #[iv a, iv 0]) ∧ w' = wr := by
  obtain ⟨F, p, fs, ids, fa, fb, h1, h2, h3⟩ := h
  have := size_ok h1.dk [97]
  rw [h2.size] at this
  exact this
theorem FIW.only {w wr : World} {d m left a k : Nat} (h : FIW w wr d m left a k) : Only [] w wr := by
  obtain ⟨F, p, fs, ids, fa, fb, h1, h2, h3⟩ := h
  exact h1.only
theorem FIW.sum {w wr : World} {d m left a k : Nat} (h : FIW w wr d m left a k) : a + left ≤ m := by
  obtain ⟨F, p, fs, ids, fa, fb, h1, h2, h3⟩ := h
  have := h2.sum
  omega
theorem FIW.k {w wr : World} {d m left a k k' : Nat} (h : FIW w wr d m left a k) (hk : k ≤ k') : FIW w wr d m left a k' := by
  obtain ⟨F, p, fs, ids, fa, fb, h1, h2, h3⟩ := h
  exact ⟨F, p, fs, ids, fa, fb, h1, h2, by omega⟩
theorem rem_yes {k n r : Nat} (h : k % n = r) : (k : Int) % (n : Int) = (r : Int) ∧ (k : Int).tmod (n : Int) = (r : Int) := by
  have h1 : (k : Int) % (n : Int) = (r : Int) := by rw [← Int.natCast_emod, h]
  exact ⟨h1, by rw [Int.tmod_eq_emod_of_nonneg (Int.natCast_nonneg k)]; exact h1⟩
theorem rem_no {k n r : Nat} (h : ¬ k % n = r) : ¬ (k : Int) % (n : Int) = (r : Int) ∧ ¬ (k : Int).tmod (n : Int) = (r : Int) := by
  have h1 : ¬ (k : Int) % (n : Int) = (r : Int) := fun e => h (by rw [← Int.natCast_emod] at e; exact Int.ofNat.inj e)
  exact ⟨h1, by rw [Int.tmod_eq_emod_of_nonneg (Int.natCast_nonneg k)]; exact h1⟩
theorem fl_num {left a L m W A2 : Nat} (hW : min left L = W) (hs : a + left ≤ m) (hm : m ≤ 5000) (hA : A2 = a ∨ A2 = a + W) :
    min (left : Int) (L : Int) = (W : Int) ∧ wrap64 ((left : Int) - (W : Int)) = ((left - W : Nat) : Int) ∧ wrap64 ((a : Int) + (W : Int)) = ((a + W : Nat) : Int) ∧ wrap64 (((left - W : Nat) : Int) + (A2 : Int)) = ((left - W + A2 : Nat) : Int) := by
  have h1 : W ≤ left ∧ W ≤ L := by omega
  refine ⟨by omega, ?_, ?_, ?_⟩
  · rw [wrap_d (by omega)]; omega
  · rw [wrap_d (by omega)]; omega
  · rw [wrap_d (by omega)]; omega
theorem k100 {k N : Nat} (h : k < N) (hn : N ≤ 100) : k ≤ 100 := by omega
set_option maxRecDepth 100000 in
set_option maxHeartbeats 6400000 in
theorem fills_ok (w : World) (most : Int) {v : Value} {l : List (Value × List UInt8)} (hv : BS w v l) : Calls Try.prog 3 #[iv most, v] w fun e w' => e = .returned (.bool true) ∧ Only [] w w' := by
  have HV := Lib.hid hv
  obtain ⟨va, vc, hvv, hvc, _⟩ := hv.1.shape
  subst hvv
  clear hv
  by_cases h1 : most < 0
  · go_enter Try.func3, Try.ntmps3
    go_wp2_with fail
    refine (begun_ok w).mono ?_
    rintro e w1 ⟨rfl, ho⟩
    have HO := Lib.hid ho
    clear ho
    go_wp2
    exact bodyPost_ret (results_tmp rfl _ _ _) rfl ⟨rfl, HO.out⟩
  by_cases h2 : 5000 < most
  · go_enter Try.func3, Try.ntmps3
    go_wp2_with fail
    refine (begun_ok w).mono ?_
    rintro e w1 ⟨rfl, ho⟩
    have HO := Lib.hid ho
    clear ho
    go_wp2
    exact bodyPost_ret (results_tmp rfl _ _ _) rfl ⟨rfl, HO.out⟩
  obtain ⟨N, hN⟩ : ∃ N, l.length = N := ⟨_, rfl⟩
  have HN := Lib.hid hN
  rw [hN] at hvc ⊢
  clear hN
  by_cases h3 : 100 < N
  · have h3z : 100 < (N : Int) := by omega
    go_enter Try.func3, Try.ntmps3
    go_wp2_with fail
    refine (begun_ok w).mono ?_
    rintro e w1 ⟨rfl, ho⟩
    have HO := Lib.hid ho
    clear ho
    go_wp2
    exact bodyPost_ret (results_tmp rfl _ _ _) rfl ⟨rfl, HO.out⟩
  have h3z : ¬ 100 < (N : Int) := by omega
  obtain ⟨m, rfl⟩ : ∃ m : Nat, most = m := ⟨most.toNat, by omega⟩
  have HM := Lib.hid (show m ≤ 5000 by omega)
  have HNL := Lib.hid (show N ≤ 100 by omega)
  go_enter Try.func3, Try.ntmps3
  go_wp2_with fail
  refine (begun_ok w).mono ?_
  rintro e w1 ⟨rfl, ho⟩
  have HO1 := Lib.hid ho
  clear ho
  go_wp2_with fail
  refine (new_ok w1 m (by omega) (by have := HM.out; omega)).mono ?_
  rintro e w2 ⟨rfl, ha⟩
  obtain ⟨d, hd⟩ : ∃ d, w1.heap.size + 2 = d := ⟨_, rfl⟩
  rw [hd] at ha ⊢
  have H2 := Lib.hid (Own.new HO1.out ha)
  clear ha hd HO1 h1 h2 h3 h3z
  go_wp2_with fail
  refine (create_ok H2.out.dk (calm_nil rfl) (show (0 : Nat) ≤ 1048576 by decide) [97]).mono ?_
  rintro e w3 ⟨fa, hfa, rfl, ha⟩
  have HFA := Lib.hid hfa
  rw [show (PD.new m).create [97] fa = (0, ((PD.new m).op .cr).chg (.cr [97] fa), true) from rfl] at ha ⊢
  have H3 := Lib.hid (H2.out.step ha)
  have HFL := Lib.hid (show fa < w3.heap.size from by
    obtain ⟨⟨nb, lb, pv, fv, bv, lv, hd⟩, _⟩ := H3.out.dk
    exact (hd.fs.file fa (.inl rfl)).blk.lt)
  clear ha hfa H2
  go_wp2_with fail
  refine (create_ok H3.out.dk (calm_nil rfl) (show (1 : Nat) ≤ 1048576 by decide) [98]).mono ?_
  rintro e w4 ⟨fb, hfb, rfl, ha⟩
  have hne : fa ≠ fb := by have := HFL.out; omega
  obtain ⟨-, e2, hi⟩ := FI.begin (m := m) hne
  rw [e2] at ha ⊢
  have H4 := Lib.hid (show FIW w w4 d m m 0 0 from ⟨_, _, _, _, fa, fb, H3.out.step ha, hi, Nat.le_refl _⟩)
  clear ha hfb hne e2 hi H3 HFL HFA
  go_wp2
  go_loopw [6, 7, 8] (fun z6 z7 z8 wr => ∃ left a k : Nat, z6 = .int .i64 left ∧ z7 = .int .i64 a ∧ z8 = .int .i64 k ∧ Hid (k ≤ N) ∧ Hid (FIW w wr d m left a k)) (fun _ _ z8 _ => N - (intOf z8).toNat)
  case atStart => exact ⟨m, 0, 0, rfl, rfl, rfl, Lib.hid (Nat.zero_le _), H4⟩
  case round =>
    obtain ⟨left, a, k, rfl, rfl, rfl, HK, HI⟩ := hrel
    by_cases hkl : k < N
    case neg =>
      have hkz : ¬ (k : Int) < (N : Int) := nlt_z hkl
      clear hkl
      go_wp2_with fail
      refine (fiw_size HI.out).mono ?_
      rintro e w5 ⟨rfl, rfl⟩
      go_wp2
      exact bodyPost_ret (results_tmp rfl _ _ _) rfl ⟨rfl, HI.out.only⟩
    have hkz : (k : Int) < (N : Int) := lt_z hkl
    have hka : k < l.length := by rw [HN.out]; exact hkl
    have HVR := Lib.hid (HV.out.only0 HI.out.only)
    obtain ⟨g, o, c', hv, hfm⟩ := HVR.out.1.form (by omega)
    injection hv with hva hvl hvc
    subst hva
    subst hvc
    clear hvl hfm
    have y0 := HVR.out.1.cells_ k (l[k]).1 (by simp [hka])
    rw [Addr.add_lit] at y0
    have HVK := Lib.hid (HV.out.2 _ (List.getElem_mem hka))
    have HY := Lib.hid (show ∀ wx, Only [] w wx → wx.cell? ⟨g, o + k, none⟩ = some (l[k]).1 from fun wx ho => by
      have := (HV.out.only0 ho).1.cells_ k (l[k]).1 (by simp [hka])
      rw [Addr.add_lit] at this
      exact this)
    obtain ⟨⟨x, L⟩, hx⟩ : ∃ x, l[k] = x := ⟨_, rfl⟩
    rw [hx] at y0 HVK HY
    dsimp only at y0 HVK HY
    obtain ⟨xa, xc, hxv, hxc, _⟩ := HVK.out.shape
    subst hxv
    have HMS := Lib.hid (meas hkl)
    have HKL := Lib.hid hkl
    have e8 := wrap_sm (by have := HNL.out; omega) hkl
    clear hkl hka hx
    by_cases hL : 16384 < L.length
    · have hLz : 16384 < (L.length : Int) := by omega
      clear hL
      go_wp2
      exact bodyPost_ret (results_tmp rfl _ _ _) rfl ⟨rfl, HI.out.only⟩
    have hLz : ¬ 16384 < (L.length : Int) := by omega
    have HLL := Lib.hid (show L.length ≤ 16384 by omega)
    clear hL
    by_cases h3 : k % 3 = 2
    · have e3 := (rem_yes h3).1
      clear h3
      go_upto_region 17 with fail
      clear e3
      have hap := fiw_append HI.out true HVK.out HLL.out
      obtain ⟨W, hW⟩ : ∃ W, min left L.length = W := ⟨_, rfl⟩
      rw [hW] at hap
      simp only [if_true, Bool.false_eq_true, if_false] at hap
      obtain ⟨E, hE⟩ : ∃ E : Int, (if W < L.length then 21 else 0) = E := ⟨_, rfl⟩
      rw [hE] at hap
      have HEE := Lib.hid hE
      clear hE
      have HAP := Lib.hid hap
      clear hap
      obtain ⟨hmn, hs1, hs3, hs2⟩ := fl_num (A2 := a) hW HI.out.sum HM.out (.inl rfl)
      have HS1 := Lib.hid hs1
      have HS2 := Lib.hid hs2
      have HS3 := Lib.hid hs3
      clear hs1 hs2 hs3
      have HK100 := Lib.hid (k100 HKL.out HNL.out)
      clear hW
      go_upto_region 18 with fail
      clear hmn
      go_wp2_with fail
      refine HAP.out.mono ?_
      rintro e w5 ⟨rfl, hi⟩
      have HI5 := Lib.hid hi
      have y5 := HY.out w5 hi.only
      clear hi y0 HAP
      by_cases hWl : W < L.length
      · have hE : E = 21 := by rw [← HEE.out, if_pos hWl]
        subst hE
        have hWz : (W : Int) < (L.length : Int) := lt_z hWl
        clear hWl
        go_upto_region 21 with fail
        clear y5 hWz
        have hs1 := HS1.out
        have hs3 := HS3.out
        obtain ⟨L2, hL2⟩ : ∃ L2, left - W = L2 := ⟨_, rfl⟩
        obtain ⟨A2, hA2⟩ : ∃ A2, a + W = A2 := ⟨_, rfl⟩
        have HL2 := Lib.hid hL2
        have HA2 := Lib.hid hA2
        rw [hL2] at hs1
        rw [hA2] at hs3
        clear hL2 hA2
        go_upto_region 24 with fail
        (try rw [hs1])
        (try rw [hs3])
        clear hs1 hs3
        by_cases h9 : k % 10 = 9
        · have e9 : ((k : Int) % 10 == 9) = true := by simpa using (rem_yes h9).1
          clear h9
          go_upto_region 25 with fail
          clear e9
          go_wp2_with fail
          refine (fiw_remove HI5.out HK100.out).mono ?_
          rintro e w6 ⟨rfl, hi⟩
          have HI6 := Lib.hid hi
          clear hi
          go_wp2_with fail
          refine (fir_create HI6.out).mono ?_
          rintro e w7 ⟨rfl, hi⟩
          have HI7 := Lib.hid hi
          clear hi
          go_wp2
          go_roundw
          case measure => (try rw [e8]); exact HMS.out
          case rel => exact ⟨left - W + a, 0, k + 1, by (try rw [← HL2.out]); (try rw [← HA2.out]); first | rw [HS2.out] | rfl, rfl, by first | rfl | rw [e8], Lib.hid HKL.out, HI7⟩
        · have e9 : ((k : Int) % 10 == 9) = false := by simpa using (rem_no h9).1
          clear h9
          go_upto_region 11 with fail
          clear e9
          go_wp2
          go_roundw
          case measure => (try rw [e8]); exact HMS.out
          case rel => exact ⟨left - W, a, k + 1, by rw [HL2.out], by first | rfl | rw [HA2.out], by first | rfl | rw [e8], Lib.hid HKL.out, Lib.hid (HI5.out.k (Nat.le_succ k))⟩
      · have hE : E = 0 := by rw [← HEE.out, if_neg hWl]
        subst hE
        have hWz : ¬ (W : Int) < (L.length : Int) := nlt_z hWl
        clear hWl
        go_upto_region 21 with fail
        clear y5 hWz
        have hs1 := HS1.out
        have hs3 := HS3.out
        obtain ⟨L2, hL2⟩ : ∃ L2, left - W = L2 := ⟨_, rfl⟩
        obtain ⟨A2, hA2⟩ : ∃ A2, a + W = A2 := ⟨_, rfl⟩
        have HL2 := Lib.hid hL2
        have HA2 := Lib.hid hA2
        rw [hL2] at hs1
        rw [hA2] at hs3
        clear hL2 hA2
        go_upto_region 24 with fail
        (try rw [hs1])
        (try rw [hs3])
        clear hs1 hs3
        by_cases h9 : k % 10 = 9
        · have e9 : ((k : Int) % 10 == 9) = true := by simpa using (rem_yes h9).1
          clear h9
          go_upto_region 25 with fail
          clear e9
          go_wp2_with fail
          refine (fiw_remove HI5.out HK100.out).mono ?_
          rintro e w6 ⟨rfl, hi⟩
          have HI6 := Lib.hid hi
          clear hi
          go_wp2_with fail
          refine (fir_create HI6.out).mono ?_
          rintro e w7 ⟨rfl, hi⟩
          have HI7 := Lib.hid hi
          clear hi
          go_wp2
          go_roundw
          case measure => (try rw [e8]); exact HMS.out
          case rel => exact ⟨left - W + a, 0, k + 1, by (try rw [← HL2.out]); (try rw [← HA2.out]); first | rw [HS2.out] | rfl, rfl, by first | rfl | rw [e8], Lib.hid HKL.out, HI7⟩
        · have e9 : ((k : Int) % 10 == 9) = false := by simpa using (rem_no h9).1
          clear h9
          go_upto_region 11 with fail
          clear e9
          go_wp2
          go_roundw
          case measure => (try rw [e8]); exact HMS.out
          case rel => exact ⟨left - W, a, k + 1, by rw [HL2.out], by first | rfl | rw [HA2.out], by first | rfl | rw [e8], Lib.hid HKL.out, Lib.hid (HI5.out.k (Nat.le_succ k))⟩
    · have e3 := (rem_no h3).1
      clear h3
      go_upto_region 17 with fail
      clear e3
      have hap := fiw_append HI.out false HVK.out HLL.out
      obtain ⟨W, hW⟩ : ∃ W, min left L.length = W := ⟨_, rfl⟩
      rw [hW] at hap
      simp only [if_true, Bool.false_eq_true, if_false] at hap
      obtain ⟨E, hE⟩ : ∃ E : Int, (if W < L.length then 21 else 0) = E := ⟨_, rfl⟩
      rw [hE] at hap
      have HEE := Lib.hid hE
      clear hE
      have HAP := Lib.hid hap
      clear hap
      obtain ⟨hmn, hs1, hs3, hs2⟩ := fl_num (A2 := (a + W)) hW HI.out.sum HM.out (.inr rfl)
      have HS1 := Lib.hid hs1
      have HS2 := Lib.hid hs2
      have HS3 := Lib.hid hs3
      clear hs1 hs2 hs3
      have HK100 := Lib.hid (k100 HKL.out HNL.out)
      clear hW
      go_upto_region 18 with fail
      clear hmn
      go_wp2_with fail
      refine HAP.out.mono ?_
      rintro e w5 ⟨rfl, hi⟩
      have HI5 := Lib.hid hi
      have y5 := HY.out w5 hi.only
      clear hi y0 HAP
      by_cases hWl : W < L.length
      · have hE : E = 21 := by rw [← HEE.out, if_pos hWl]
        subst hE
        have hWz : (W : Int) < (L.length : Int) := lt_z hWl
        clear hWl
        go_upto_region 21 with fail
        clear y5 hWz
        have hs1 := HS1.out
        have hs3 := HS3.out
        obtain ⟨L2, hL2⟩ : ∃ L2, left - W = L2 := ⟨_, rfl⟩
        obtain ⟨A2, hA2⟩ : ∃ A2, a + W = A2 := ⟨_, rfl⟩
        have HL2 := Lib.hid hL2
        have HA2 := Lib.hid hA2
        rw [hL2] at hs1
        rw [hA2] at hs3
        clear hL2 hA2
        go_upto_region 24 with fail
        (try rw [hs1])
        (try rw [hs3])
        clear hs1 hs3
        by_cases h9 : k % 10 = 9
        · have e9 : ((k : Int) % 10 == 9) = true := by simpa using (rem_yes h9).1
          clear h9
          go_upto_region 25 with fail
          clear e9
          go_wp2_with fail
          refine (fiw_remove HI5.out HK100.out).mono ?_
          rintro e w6 ⟨rfl, hi⟩
          have HI6 := Lib.hid hi
          clear hi
          go_wp2_with fail
          refine (fir_create HI6.out).mono ?_
          rintro e w7 ⟨rfl, hi⟩
          have HI7 := Lib.hid hi
          clear hi
          go_wp2
          go_roundw
          case measure => (try rw [e8]); exact HMS.out
          case rel => exact ⟨left - W + (a + W), 0, k + 1, by (try rw [← HL2.out]); (try rw [← HA2.out]); first | rw [HS2.out] | rfl, rfl, by first | rfl | rw [e8], Lib.hid HKL.out, HI7⟩
        · have e9 : ((k : Int) % 10 == 9) = false := by simpa using (rem_no h9).1
          clear h9
          go_upto_region 11 with fail
          clear e9
          go_wp2
          go_roundw
          case measure => (try rw [e8]); exact HMS.out
          case rel => exact ⟨left - W, (a + W), k + 1, by rw [HL2.out], by first | rfl | rw [HA2.out], by first | rfl | rw [e8], Lib.hid HKL.out, Lib.hid (HI5.out.k (Nat.le_succ k))⟩
      · have hE : E = 0 := by rw [← HEE.out, if_neg hWl]
        subst hE
        have hWz : ¬ (W : Int) < (L.length : Int) := nlt_z hWl
        clear hWl
        go_upto_region 21 with fail
        clear y5 hWz
        have hs1 := HS1.out
        have hs3 := HS3.out
        obtain ⟨L2, hL2⟩ : ∃ L2, left - W = L2 := ⟨_, rfl⟩
        obtain ⟨A2, hA2⟩ : ∃ A2, a + W = A2 := ⟨_, rfl⟩
        have HL2 := Lib.hid hL2
        have HA2 := Lib.hid hA2
        rw [hL2] at hs1
        rw [hA2] at hs3
        clear hL2 hA2
        go_upto_region 24 with fail
        (try rw [hs1])
        (try rw [hs3])
        clear hs1 hs3
        by_cases h9 : k % 10 = 9
        · have e9 : ((k : Int) % 10 == 9) = true := by simpa using (rem_yes h9).1
          clear h9
          go_upto_region 25 with fail
          clear e9
          go_wp2_with fail
          refine (fiw_remove HI5.out HK100.out).mono ?_
          rintro e w6 ⟨rfl, hi⟩
          have HI6 := Lib.hid hi
          clear hi
          go_wp2_with fail
          refine (fir_create HI6.out).mono ?_
          rintro e w7 ⟨rfl, hi⟩
          have HI7 := Lib.hid hi
          clear hi
          go_wp2
          go_roundw
          case measure => (try rw [e8]); exact HMS.out
          case rel => exact ⟨left - W + (a + W), 0, k + 1, by (try rw [← HL2.out]); (try rw [← HA2.out]); first | rw [HS2.out] | rfl, rfl, by first | rfl | rw [e8], Lib.hid HKL.out, HI7⟩
        · have e9 : ((k : Int) % 10 == 9) = false := by simpa using (rem_no h9).1
          clear h9
          go_upto_region 11 with fail
          clear e9
          go_wp2
          go_roundw
          case measure => (try rw [e8]); exact HMS.out
          case rel => exact ⟨left - W, (a + W), k + 1, by rw [HL2.out], by first | rfl | rw [HA2.out], by first | rfl | rw [e8], Lib.hid HKL.out, Lib.hid (HI5.out.k (Nat.le_succ k))⟩
end Go.Proofs.Ytnickdlpciheiaa
