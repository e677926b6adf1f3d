/-
  The disk: Arm.
-/
import Derived.Test.YtnickdlpciheiaaEa
import Derived.Test.YtnickdlpciheiaaMaps
set_option linter.unusedSimpArgs false
set_option linter.unusedVariables false
namespace Go.Proofs.Ytnickdlpciheiaa
open Go.RowKit Go.Fl

/-- May a fault stand behind these? -/
def fltOk (prev : List Flt) (x : Flt) : Bool := decide (1 ≤ x.1) && decide (x.1 ≤ 4294967296) && !(prev.any fun y => y.1 == x.1) && decide (1 ≤ x.2.1) && decide (x.2.1 ≤ 4) && decide (0 ≤ x.2.2)
def fltsOk (l : List Flt) : Bool := (List.range l.length).all fun i => fltOk (l.take i) (l.getD i (0, 0, 0))
def PD.arm (p : PD) (l : List Flt) : Int × PD := if 64 < l.length then (1, p) else if fltsOk l = true then (0, { p with faults := l, since := 0 }) else (1, p)
/-- What has been seen. -/
def seenM (l : List Flt) : List (Int × Value) := l.map fun x => (x.1, iv 1)
theorem seen_get (l : List Flt) (x : Int) : mapGet (seenM l) x (iv 0) = if l.any (fun y => y.1 == x) = true then iv 1 else iv 0 := by
  unfold mapGet seenM
  induction l with
  | nil => rfl
  | cons y l ih =>
    rw [List.map_cons, List.find?_cons, List.any_cons]
    cases hy : (y.1 == x)
    · rw [Bool.false_or]
      simpa using ih
    · simp
theorem seen_put : ∀ (l : List Flt) (x : Flt), l.any (fun y => y.1 == x.1) = false → mapPut (seenM l) x.1 (iv 1) = seenM (l ++ [x])
  | [], x, _ => rfl
  | y :: l, x, h => by
    rw [List.any_cons, Bool.or_eq_false_iff] at h
    show (if y.1 == x.1 then _ else (y.1, iv 1) :: mapPut (seenM l) x.1 (iv 1)) = _
    rw [h.1, seen_put l x h.2]
    rfl
theorem put_get {m : List (Int × Value)} {x : Int} {v z : Value} : mapGet (mapPut m x v) x z = v := by
  induction m with
  | nil => simp [mapGet, mapPut]
  | cons p m ih =>
    unfold mapPut
    by_cases h : (p.1 == x) = true
    · rw [if_pos h]
      simp [mapGet]
    · rw [if_neg h]
      unfold mapGet at ih ⊢
      rw [List.find?_cons]
      simp only [Bool.not_eq_true] at h
      rw [h]
      exact ih
theorem flts_at {l : List Flt} {k : Nat} (h : k < l.length) (hb : fltOk (l.take k) (l.getD k (0, 0, 0)) = false) : fltsOk l = false := by
  unfold fltsOk
  rw [List.all_eq_false]
  exact ⟨k, List.mem_range.2 h, by rw [hb]; simp⟩
theorem flts_all {l : List Flt} (h : ∀ k, k < l.length → fltOk (l.take k) (l.getD k (0, 0, 0)) = true) : fltsOk l = true := by
  unfold fltsOk
  rw [List.all_eq_true]
  exact fun k hk => h k (List.mem_range.1 hk)
theorem fltOk_iff {prev : List Flt} {xa xk xp : Int} : fltOk prev (xa, xk, xp) = true ↔ 1 ≤ xa ∧ xa ≤ 4294967296 ∧ prev.any (fun y => y.1 == xa) = false ∧ 1 ≤ xk ∧ xk ≤ 4 ∧ 0 ≤ xp := by
  unfold fltOk
  simp only [Bool.and_eq_true, decide_eq_true_eq, Bool.not_eq_true', and_assoc]
theorem fltOk_no {prev : List Flt} {xa xk xp : Int} (h : ¬ (1 ≤ xa ∧ xa ≤ 4294967296 ∧ prev.any (fun y => y.1 == xa) = false ∧ 1 ≤ xk ∧ xk ≤ 4 ∧ 0 ≤ xp)) : fltOk prev (xa, xk, xp) = false :=
  Bool.eq_false_iff.2 fun e => h (fltOk_iff.1 e)
theorem info36 : (Try.prog.info? 36).map (fun i => (i.zero, i.size, i.bytes)) = some (some (.agg #[.int .i64 0, .int .i64 0, .int .i64 0]), 3, 24) := by kernel_rfl
theorem zero3 : (Try.prog.info? 3).bind (·.zero) = some (iv 0) := by kernel_rfl
section
variable {w w' : World} {F G : Nat → Prop} {d : Nat} {p p' : PD} {fs : Nat → FD} {ids : Nat → Prop} {nb lb : Nat} {pv fv pv' fv' : Value} {bv lv : Nat → Value}
/-- Faults have been laid. -/
theorem After.arm (h : Dk w F d p fs ids nb lb pv fv bv lv) (hF : ∀ k, F k → k < w.heap.size) {l : List Flt} {fv2 : Value} {w2 : World} (ho : Only [] w w2) (hS : Sl w2 36 3 fv2 l.length (fcs l)) (hW : ∀ g, fv2.ownBlock = some g → w.heap.size ≤ g) (hl : l.length ≤ 64) :
    After w F d { p with faults := l, since := 0 } fs ids ((w2.setCell ⟨d, 15, none⟩ fv2).setCell ⟨d, 16, none⟩ (iv 0)) := by
  have hb := h.dm.blk.only ho (by simp)
  have o2 : Only [d] w2 ((w2.setCell ⟨d, 15, none⟩ fv2).setCell ⟨d, 16, none⟩ (iv 0)) := ((Only.refl [d] w2).setCell (.inl (by simp)) _).setCell (.inl (by simp)) _
  have o3 : Only [d] w ((w2.setCell ⟨d, 15, none⟩ fv2).setCell ⟨d, 16, none⟩ (iv 0)) := (ho.mono (by simp)).trans o2
  have hd := h.dm.dd
  have hlt := h.dm.lts
  refine After.kept h hF (pv' := pv) (fv' := fv2) ⟨?_, h.dm.now.only o3 (by simpa using hd.1), h.dm.last.only o3 (by simpa using hd.2), h.dm.ne, h.dm.pend.only o3 (fun g hg => by simpa using (h.dm.pd hg).1), ?_, .inl h.dm.fd, .inl h.dm.fn, .inl h.dm.fl, fun g hg => .inl (h.dm.fp_ g hg), fun g hg => .inr ⟨hW g hg, ?_⟩⟩ (o3.mono fun k hk => by rw [List.mem_singleton.1 hk]; exact own_d _ _ _ _ _) ⟨h.live.now, h.live.last, h.live.pend⟩ ⟨h.ok.snow, h.ok.slast, h.ok.go, h.ok.ok, h.ok.len, hl, h.ok.most, h.ok.pre⟩
  · have := (hb.set_ 15 fv2).set_ 16 (iv 0)
    simpa [dcells] using this
  · refine hS.only o2 fun g hg hm => ?_
    have h1 := hW g hg
    simp at hm
    omega
  · have h1 := hS.lt g hg
    have h2 := o2.size
    omega
set_option maxRecDepth 100000 in
set_option maxHeartbeats 3200000 in
theorem arm_ok (h0 : DK w F d p fs ids) {v : Value} {l : List Flt} (hv : Sr w 3 v l.length (fcs l)) (hoff : Off F v l.length) : Calls Try.prog 16 #[cp d, v] w fun e w' =>
    e = .returned (iv (p.arm l).1) ∧ After w F d (p.arm l).2 fs ids w' := by
  have HS := Lib.hid (After.same h0)
  have HF := Lib.hid h0.2
  have HQ := Lib.hid (fun (wx : World) (ho : Only [] w wx) => (After.quiet h0 ho : After w F d p fs ids wx))
  obtain ⟨⟨nb, lb, pv, fv, bv, lv, h⟩, _⟩ := h0
  have H := Lib.hid h
  have HV := Lib.hid hv
  obtain ⟨va, vc, hvv, hvc, _⟩ := hv.shape
  subst hvv
  have x0 := h.dm.blk.cell 0
  have xl := h.dm.blk.lt
  simp [dcells] at x0
  obtain ⟨N, hN⟩ : ∃ N, l.length = N := ⟨_, rfl⟩
  have HN := Lib.hid hN
  rw [hN] at HV hvc ⊢
  clear h hv hN hoff
  by_cases h64 : 64 < N
  · have hz : 64 < (N : Int) := by omega
    have HR := Lib.hid (show p.arm l = (1, p) from by unfold PD.arm; rw [if_pos (by rw [HN.out]; exact h64)])
    clear h64
    go_enter Try.func16, Try.ntmps16
    go_wp2
    refine bodyPost_ret (results_tmp rfl _ _ _) rfl ?_
    rw [HR.out]
    exact ⟨rfl, HS.out⟩
  have hz : ¬ 64 < (N : Int) := by omega
  have HNL := Lib.hid (show N ≤ 64 by omega)
  have HPA := Lib.hid (show p.arm l = if fltsOk l = true then (0, { p with faults := l, since := 0 }) else (1, p) from by unfold PD.arm; rw [if_neg (by rw [HN.out]; exact h64)])
  clear h64
  have hmk : ∀ w, (Instr.makeMap 93 none).run Try.prog w = .ok (.map (some w.heap.size)) (w.alloc (.map #[] 0)) := fun _ => rfl
  have HIM := Lib.hid (IMap.new w .i64)
  have HOA := Lib.hid ((Only.refl [] w).alloc (.map #[] 0))
  go_enter Try.func16, Try.ntmps16
  go_wp2
  obtain ⟨mb, hmb⟩ : ∃ mb, w.heap.size = mb := ⟨_, rfl⟩
  have HMB := Lib.hid hmb
  rw [hmb] at HIM ⊢
  generalize w.alloc (.map #[] 0) = w1 at HIM HOA ⊢
  clear x0 xl hmb hmk
  go_loopw [23] (fun z wr => ∃ k : Nat, z = .int .i64 k ∧ Hid (k ≤ N) ∧ Hid (IMap wr mb .i64 (seenM (l.take k))) ∧ Hid (Only [] w wr) ∧ Hid (∀ j, j < k → fltOk (l.take j) (l.getD j (0, 0, 0)) = true)) (fun z _ => N - (intOf z).toNat)
  case atStart => exact ⟨0, rfl, Lib.hid (Nat.zero_le _), HIM, HOA, Lib.hid (fun j h => absurd h (Nat.not_lt_zero _))⟩
  case round =>
    obtain ⟨k, rfl, HK, HI, HO, HJ⟩ := hrel
    by_cases hkl : k < N
    case neg =>
      have hkz : ¬ (k : Int) < (N : Int) := nlt_z hkl
      have HE := Lib.hid (show fltsOk l = true from flts_all fun j hj => HJ.out j (by have h1 := HK.out; have h2 := HN.out; omega))
      have HVR := Lib.hid (HV.out.only0 HO.out)
      have hbd := H.out.dm.blk.only HO.out (by simp)
      have x15 := hbd.cell 15
      have x16 := hbd.cell 16
      have xl := hbd.lt
      simp [dcells] at x15 x16
      obtain ⟨j36, si, sz0, sz1, sz2⟩ := info_parts info36
      clear hkl
      go_wp2_with (at_builtin; refine wpList_append_slr rfl (.const (.slice none 0 0)) (.tmp 65) 49 rfl 36 j36 _ 3 24 Try.underlying49 si sz0 sz1 sz2 rfl (by decide) rfl (Sl.nil _ _ _) rfl HVR.out (by intro u hu; unfold fcs at hu; obtain ⟨c, hc, hu⟩ := List.mem_flatten.1 hu; obtain ⟨x, _, rfl⟩ := List.mem_map.1 hc; simp at hu; rcases hu with rfl | rfl | rfl <;> rfl) (by have := HNL.out; unfold maxLen; omega) (by have := HNL.out; omega) ?_)
      intro v2 w2 hS2 hg2 hat2
      have HO2 := Lib.hid (show Only [] w w2 from HO.out.grown hg2 fun i hi => by cases hi)
      have HA := Lib.hid (After.arm H.out HF.out HO2.out (l := l) (fv2 := v2) (by rw [HN.out]; simpa using hS2) (fun g hg => by
        rcases hat2 with e | e
        · rw [e] at hg; cases hg
        · rw [e] at hg
          injection hg with hg
          have := HO.out.size
          omega) (by rw [HN.out]; exact HNL.out))
      obtain ⟨fa, fc, hfv, _, _⟩ := hS2.shape
      subst hfv
      have hbd2 := H.out.dm.blk.only HO2.out (by simp)
      have x15 := hbd2.cell 15
      have x16 := hbd2.cell 16
      have xl2 := hbd2.lt
      have xf2 := hbd2.frozen
      simp [dcells] at x15 x16
      clear hS2 hg2 hat2 hbd hbd2
      go_wp2
      refine bodyPost_ret (results_tmp rfl _ _ _) rfl ?_
      rw [HPA.out, if_pos HE.out]
      exact ⟨rfl, HA.out⟩
    have hkz : (k : Int) < (N : Int) := lt_z hkl
    have HKA := Lib.hid (show k < l.length by rw [HN.out]; exact hkl)
    obtain ⟨g, o, c', hv, _⟩ := HV.out.form (Nat.lt_of_le_of_lt (Nat.zero_le k) hkl)
    injection hv with hva _ hvc
    subst hva
    subst hvc
    obtain ⟨f0, f1, f2⟩ := fcs_get l k HKA.out
    have HVR := Lib.hid (HV.out.only0 HO.out)
    have y0 := HVR.out.cells_ _ _ f0
    have y1 := HVR.out.cells_ _ _ f1
    have y2 := HVR.out.cells_ _ _ f2
    rw [Addr.add_lit] at y0 y1 y2
    rw [← Nat.add_assoc] at y1 y2
    obtain ⟨⟨xa, xk, xp⟩, hx⟩ : ∃ x, l.getD k (0, 0, 0) = x := ⟨_, rfl⟩
    rw [hx] at y0 y1 y2
    dsimp only at y0 y1 y2
    have HXE := Lib.hid hx
    have e8 := wrap_sm (by have := HNL.out; omega) hkl
    have HMS := Lib.hid (meas hkl)
    have HKL := Lib.hid hkl
    clear f0 f1 f2 hkl hx
    go_wp2_with (refine wpList_store_blk (g := wr.heap.size) (k := 0) rfl 36 (.tmp 7) (.tmp 26) rfl [iv xa, iv xk, iv xp] rfl rfl (Blk.new wr 36 #[iv 0, iv 0, iv 0]) (by kernel_rfl) (by simp) (by simp [Value.oneCell']) ?_)
    intro w3 hB hO
    have HB3 := Lib.hid (show Blk w3 wr.heap.size 36 #[iv xa, iv xk, iv xp] by simpa using hB)
    have HO3 := Lib.hid (only_new hO)
    have HI3 := Lib.hid (HI.out.only HO3.out (by simp))
    clear hB hO y0 y1 y2
    obtain ⟨xb, hxb⟩ : ∃ xb, wr.heap.size = xb := ⟨_, rfl⟩
    rw [hxb] at HB3 ⊢
    have HXB := Lib.hid (show mb ≠ xb from fun e => by have := HI.out.lt; omega)
    clear hxb
    go_upto_region 9 with fail
    have z0 := HB3.out.cell 0
    have zl := HB3.out.lt
    simp at z0
    have hlk := run_lookup (P := Try.prog) (x := xa) HI3.out Try.underlying93 Try.underlying2 zero3
    rw [seen_get] at hlk
    have HMB2 := Lib.hid (show w.heap.size ≤ mb from Nat.le_of_eq HMB.out)
    cases hs : (l.take k).any (fun y => y.1 == xa) with
    | true =>
      rw [hs, if_pos rfl] at hlk
      have HSE := Lib.hid hs
      clear hs
      go_wp2_with (at_mapUpdate; refine wpList_mapUpdate rfl (.tmp 27) (.tmp 29) (.tmp 31) 93 rfl 2 3 Try.underlying93 Try.underlying2 rfl HI3.out rfl rfl ?_)
      intro w4 hm4 ho4
      have HI4 := Lib.hid hm4
      have HO4 := Lib.hid (only_fresh (HO.out.trans HO3.out) ho4 HMB2.out)
      have HB4 := Lib.hid (HB3.out.only ho4 (by simpa using HXB.out.symm))
      have HQ4 := Lib.hid (HQ.out w4 HO4.out)
      have hl4 := run_lookup (P := Try.prog) (x := xa) HI4.out Try.underlying93 Try.underlying2 zero3
      rw [put_get] at hl4
      have z0 := HB4.out.cell 0
      have z1 := HB4.out.cell 1
      have z2 := HB4.out.cell 2
      have zl := HB4.out.lt
      simp at z0 z1 z2
      clear hm4 ho4
      by_cases c1 : xa < 1
      ·
        have HR := Lib.hid (show fltsOk l = false from flts_at HKA.out (by rw [HXE.out]; exact fltOk_no (fun h => by omega)))
        go_wp2
        refine bodyPost_ret (results_tmp rfl _ _ _) rfl ?_
        rw [HPA.out, if_neg (by rw [HR.out]; simp)]
        exact ⟨rfl, HQ4.out⟩
      by_cases c2 : 4294967296 < xa
      ·
        have HR := Lib.hid (show fltsOk l = false from flts_at HKA.out (by rw [HXE.out]; exact fltOk_no (fun h => by omega)))
        go_wp2
        refine bodyPost_ret (results_tmp rfl _ _ _) rfl ?_
        rw [HPA.out, if_neg (by rw [HR.out]; simp)]
        exact ⟨rfl, HQ4.out⟩
      have HR := Lib.hid (show fltsOk l = false from flts_at HKA.out (by rw [HXE.out]; exact fltOk_no (fun h => by simp [HSE.out] at h)))
      go_wp2
      refine bodyPost_ret (results_tmp rfl _ _ _) rfl ?_
      rw [HPA.out, if_neg (by rw [HR.out]; simp)]
      exact ⟨rfl, HQ4.out⟩
    | false =>
      rw [hs, if_neg (by simp)] at hlk
      have HSE := Lib.hid hs
      clear hs
      go_wp2_with (at_mapUpdate; refine wpList_mapUpdate rfl (.tmp 27) (.tmp 29) (.tmp 31) 93 rfl 2 3 Try.underlying93 Try.underlying2 rfl HI3.out rfl rfl ?_)
      intro w4 hm4 ho4
      have HI4 := Lib.hid hm4
      have HO4 := Lib.hid (only_fresh (HO.out.trans HO3.out) ho4 HMB2.out)
      have HB4 := Lib.hid (HB3.out.only ho4 (by simpa using HXB.out.symm))
      have HQ4 := Lib.hid (HQ.out w4 HO4.out)
      have hl4 := run_lookup (P := Try.prog) (x := xa) HI4.out Try.underlying93 Try.underlying2 zero3
      rw [put_get] at hl4
      have z0 := HB4.out.cell 0
      have z1 := HB4.out.cell 1
      have z2 := HB4.out.cell 2
      have zl := HB4.out.lt
      simp at z0 z1 z2
      clear hm4 ho4
      by_cases c1 : xa < 1
      ·
        have HR := Lib.hid (show fltsOk l = false from flts_at HKA.out (by rw [HXE.out]; exact fltOk_no (fun h => by omega)))
        go_wp2
        refine bodyPost_ret (results_tmp rfl _ _ _) rfl ?_
        rw [HPA.out, if_neg (by rw [HR.out]; simp)]
        exact ⟨rfl, HQ4.out⟩
      by_cases c2 : 4294967296 < xa
      ·
        have HR := Lib.hid (show fltsOk l = false from flts_at HKA.out (by rw [HXE.out]; exact fltOk_no (fun h => by omega)))
        go_wp2
        refine bodyPost_ret (results_tmp rfl _ _ _) rfl ?_
        rw [HPA.out, if_neg (by rw [HR.out]; simp)]
        exact ⟨rfl, HQ4.out⟩
      by_cases c4 : xk < 1
      ·
        have HR := Lib.hid (show fltsOk l = false from flts_at HKA.out (by rw [HXE.out]; exact fltOk_no (fun h => by omega)))
        go_wp2
        refine bodyPost_ret (results_tmp rfl _ _ _) rfl ?_
        rw [HPA.out, if_neg (by rw [HR.out]; simp)]
        exact ⟨rfl, HQ4.out⟩
      by_cases c5 : 4 < xk
      ·
        have HR := Lib.hid (show fltsOk l = false from flts_at HKA.out (by rw [HXE.out]; exact fltOk_no (fun h => by omega)))
        go_wp2
        refine bodyPost_ret (results_tmp rfl _ _ _) rfl ?_
        rw [HPA.out, if_neg (by rw [HR.out]; simp)]
        exact ⟨rfl, HQ4.out⟩
      by_cases c6 : xp < 0
      ·
        have HR := Lib.hid (show fltsOk l = false from flts_at HKA.out (by rw [HXE.out]; exact fltOk_no (fun h => by omega)))
        go_wp2
        refine bodyPost_ret (results_tmp rfl _ _ _) rfl ?_
        rw [HPA.out, if_neg (by rw [HR.out]; simp)]
        exact ⟨rfl, HQ4.out⟩
      have HG := Lib.hid (show fltOk (l.take k) (l.getD k (0, 0, 0)) = true from by rw [HXE.out]; exact fltOk_iff.2 ⟨by omega, by omega, HSE.out, by omega, by omega, by omega⟩)
      have HI5 := Lib.hid (show IMap w4 mb .i64 (seenM (l.take (k + 1))) from by
        have h1 := HI4.out
        rw [seen_put (l.take k) (xa, xk, xp) HSE.out] at h1
        rw [List.take_succ_eq_append_getElem HKA.out]
        have h2 : l[k]'HKA.out = (xa, xk, xp) := by rw [← HXE.out, List.getD_eq_getElem?_getD, List.getElem?_eq_getElem HKA.out]; rfl
        rw [h2]
        exact h1)
      go_wp2
      go_roundw
      case measure => (try rw [e8]); exact HMS.out
      case rel => exact ⟨k + 1, by first | rfl | rw [e8], Lib.hid HKL.out, HI5, HO4, Lib.hid (fun j hj => by
        rcases Nat.lt_succ_iff_lt_or_eq.1 hj with hj | hj
        · exact HJ.out j hj
        · subst hj; exact HG.out)⟩
end
end Go.Proofs.Ytnickdlpciheiaa
