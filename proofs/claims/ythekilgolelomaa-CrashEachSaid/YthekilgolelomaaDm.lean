/-
  The disk: Append.
-/
import Derived.Test.YthekilgolelomaaDl
set_option linter.unusedSimpArgs false
set_option linter.unusedVariables false
namespace Go.Proofs.Ythekilgolelomaa
open Go.RowKit Go.Fl

/-- How many bytes go in. -/
def PD.fit (p : PD) (fs : Nat → FD) (L : Nat) : Int :=
  if (p.op .ap).flt.2.1 ≠ 0 then min (min (L : Int) (p.room fs)) (p.op .ap).flt.2.2 else min (L : Int) (p.room fs)
/-- What is answered behind so many bytes. -/
def appR (x : Flt) (n : Int) (L : Nat) : Int := if befR x ≠ 0 then befR x else if n < L then 21 else 0
def PD.append (p : PD) (fs : Nat → FD) (s : Nm) (data : List UInt8) : (Int × Int) × PD × (Nat → FD) :=
  match findR p s with
  | (none, e) => ((0, e), p, fs)
  | (some f, _) => ((p.fit fs data.length, appR (p.op .ap).flt (p.fit fs data.length) data.length), ((p.op .ap).byte (p.fit fs data.length)).bef (p.op .ap).flt,
      upd fs f { fs f with b := (fs f).b ++ data.take (p.fit fs data.length).toNat })
theorem byV_append (a b : List UInt8) : byV (a ++ b) = byV a ++ byV b := by simp [byV]
theorem byV_take (a : List UInt8) (n : Nat) : byV (a.take n) = (byV a).take n := by simp [byV]
theorem byV_len (a : List UInt8) : (byV a).length = a.length := by simp [byV]
theorem room_nonneg (p : PD) (fs : Nat → FD) : 0 ≤ p.room fs := by unfold PD.room; omega
section
variable {w w' : World} {F G : Nat → Prop} {d : Nat} {p p' : PD} {fs : Nat → FD} {ids : Nat → Prop} {nb lb : Nat} {pv fv pv' fv' : Value} {bv lv : Nat → Value}
theorem lens_mem {l : List (Nm × Nat)} {s : Nm} {f : Nat} (h : (s, f) ∈ l) : ((fs f).b.length : Int) ≤ lens fs l := by
  obtain ⟨l1, l2, rfl⟩ := List.append_of_mem h
  unfold lens
  simp
  omega
/-- What fits keeps files small. -/
theorem fit_ok (hp : p.Ok) {s : Nm} {f : Nat} (hf : (s, f) ∈ p.now) (hk : (fs f).Ok) {n : Nat} (h1 : (n : Int) ≤ p.room fs) : (fs f).b.length + n ≤ 1073741824 := by
  have h2 := lens_mem (fs := fs) hf
  have h3 := hp.most.2
  have h4 := hk.2.2
  unfold PD.room at h1
  omega
theorem grow_not {k : Nat} (h : ¬ F k) (hk : k < w.heap.size) : ¬ grow F w w' k := fun hg => by
  rcases hg with hg | hg
  · exact h hg
  · omega
theorem Blk.turn {g t : Nat} {cs : Array Value} (hb : Blk w g t cs) (ht : Turn F w w') (hn : ¬ F g) : Blk w' g t cs := (ht.block g hb.lt hn).trans hb
theorem Sl.turn {e size n : Nat} {v : Value} {xs : List Value} (h : Sl w e size v n xs) (ht : Turn F w w') (hn : ∀ g, v.ownBlock = some g → ¬ F g) : Sl w' e size v n xs := h.keep fun g hg => ht.block g (h.lt g hg) (hn g hg)
theorem Sr.turn {size n : Nat} {v : Value} {xs : List Value} (h : Sr w size v n xs) (ht : Turn F w w') (hn : Off F v n) : Sr w' size v n xs := h.keep fun h0 g hg hl => ⟨Nat.lt_of_lt_of_le hl ht.size, ht.block g hl (hn h0 g hg)⟩
theorem info5 : (Try.prog.info? 5).map (fun i => (i.zero, i.size, i.bytes)) = some (some (.int .u8 0), 1, 1) := by kernel_rfl
/-- Bytes have been put behind a file's; then the slice is laid. -/
theorem app_fact {w4 w5 : World} {v5 : Value} {f : Nat} {xs : List UInt8} (h : Dk w F d p fs ids nb lb pv fv bv lv) (hF : ∀ k, F k → k < w.heap.size) (hi : ids f) (ho : Only [] w w4)
    (hS : Sl w5 5 1 v5 ((fs f).b.length + xs.length) (byV (fs f).b ++ byV xs)) (hg : w4.grownBy w5 (bv f).ownBlock) (hat : v5.ownBlock = (bv f).ownBlock ∨ v5.ownBlock = some w4.heap.size) (hlen : (fs f).b.length + xs.length ≤ 1073741824) :
    Blk w5 f 87 #[bv f, lv f, iv (fs f).marked] ∧ After w F d p (upd fs f { fs f with b := (fs f).b ++ xs }) ids (w5.setCell ⟨f, 0, none⟩ v5) := by
  have hf := h.fs.file f hi
  have hs4 := ho.size
  have o5 : Only (bv f).ownBlock.toList w w5 := (ho.mono (by simp)).grown hg fun k hk => .inl (by simp [hk])
  have nb : ∀ g, (bv f).ownBlock = some g → g ≠ f := fun g hg e => by
    subst e
    obtain ⟨cur, hc⟩ := Go.Proofs.Ythekilgolelomaa.Sl.blk hf.b hg
    exact Blk.ne_ hc hf.blk (by decide) rfl
  have nl : ∀ g, (lv f).ownBlock = some g → g ≠ f := fun g hg e => by
    subst e
    obtain ⟨cur, hc⟩ := Go.Proofs.Ythekilgolelomaa.Sl.blk hf.l hg
    exact Blk.ne_ hc hf.blk (by decide) rfl
  have hb5 : Blk w5 f 87 #[bv f, lv f, iv (fs f).marked] := hf.blk.only o5 fun hm => nb f (by simpa using hm) rfl
  have hl5 : Sl w5 5 1 (lv f) (fs f).lasts.length (byV (fs f).lasts) := hf.l.only o5 fun g hg hm => h.fs.s1 f f g hi hi (by simpa using hm) hg
  have hv : v5.ownBlock ≠ some f := fun e => by
    rcases hat with e2 | e2
    · exact nb f (e2 ▸ e) rfl
    · rw [e2] at e
      injection e with e
      have := hf.blk.lt
      omega
  have hown : ∀ g, v5.ownBlock = some g → (bv f).ownBlock = some g ∨ w.heap.size ≤ g := fun g hg => by
    rcases hat with e | e
    · exact .inl (e ▸ hg)
    · rw [e] at hg
      injection hg with hg
      exact .inr (by omega)
  refine ⟨hb5, After.file h hF hi (S := f :: (bv f).ownBlock.toList) (b' := v5) (l' := lv f) ((o5.mono fun k hk => List.mem_cons_of_mem _ hk).setCell (.inl (by simp)) _) (fun k hk => ?_) ⟨?_, ?_, ?_, ?_⟩ hown (fun g hg => .inl hg) (fun g hg hl => ?_)⟩
  · rcases List.mem_cons.1 hk with e | e
    · exact .inl e
    · exact .inr (.inl (by simpa using e))
  · have := hb5.set_ 0 v5
    simpa using this
  · have := hS.far (p := ⟨f, 0, none⟩) hv v5
    rw [← byV_append] at this
    simpa using this
  · exact hl5.far (fun e => nl f e rfl) _
  · have h1 := hf.ok
    refine ⟨?_, ?_, ?_⟩
    · have := h1.1
      simp
      omega
    · have := h1.2.1
      simp
      omega
    · simpa using hlen
  · rcases hown g hg with e | e
    · exact h.fs.s1 f f g hi hi e hl
    · have := hf.l.lt g hl
      omega
set_option maxRecDepth 100000 in
set_option maxHeartbeats 3200000 in
theorem append_some (h0 : DK w F d p fs ids) (hc : p.calm) {s : Nm} {data : List UInt8} {v : Value} (hv : Sr w 1 v data.length (byV data)) (hs : Off F v data.length) (hdl : data.length ≤ 1048576)
    {f : Nat} (hf : findR p s = (some f, 0)) (hfn : p.now.get s = some f) (hfi : ids f) : Calls Try.prog 10 #[cp d, sk s, v] w fun e w' =>
    e = .returned (.tuple #[iv (p.fit fs data.length), iv (appR (p.op .ap).flt (p.fit fs data.length) data.length)]) ∧
      After w F d (((p.op .ap).byte (p.fit fs data.length)).bef (p.op .ap).flt) (upd fs f { fs f with b := (fs f).b ++ data.take (p.fit fs data.length).toNat }) ids w' := by
  obtain ⟨j5, si, sz0, sz1, sz2⟩ := info_parts info5
  have HFI := Lib.hid (find_dk h0 s)
  rw [hf] at HFI
  dsimp only [optP] at HFI
  have HOP := Lib.hid (opd_ap h0)
  have HC := Lib.hid (hc.op .ap)
  have HPT := hc.part .ap
  have HRN := room_nonneg p fs
  have HV := Lib.hid hv
  have HS := Lib.hid hs
  have HDL := Lib.hid hdl
  have xl := h0.lt
  have HFN := Lib.hid hfn
  have HID := Lib.hid hfi
  have HRE := Lib.hid (show (p.op .ap).room fs = p.room fs from rfl)
  unfold PD.fit
  generalize (p.op .ap).flt = x at HOP HC HPT ⊢
  obtain ⟨xa, xk, xp⟩ := x
  dsimp only at HC HPT ⊢
  unfold fltV at HOP
  dsimp only at HOP
  obtain ⟨R, hR⟩ := Int.eq_ofNat_of_zero_le HRN
  obtain ⟨P, rfl⟩ := Int.eq_ofNat_of_zero_le HPT
  rw [hR] at HRE ⊢
  obtain ⟨L, hL⟩ : ∃ L, data.length = L := ⟨_, rfl⟩
  have HLE := Lib.hid hL
  rw [hL] at HV HS HDL ⊢
  obtain ⟨sa, scap, hsv, hsc, _⟩ := HV.out.shape
  subst hsv
  obtain ⟨N, hN⟩ : ∃ N : Nat, (if xk ≠ 0 then min (min (L : Int) (R : Int)) (P : Int) else min (L : Int) (R : Int)) = N := by
    by_cases hk : xk = 0
    · exact ⟨min L R, by rw [if_neg (by simp [hk])]; omega⟩
    · exact ⟨min (min L R) P, by rw [if_pos hk]; omega⟩
  have HNE := Lib.hid hN
  rw [hN]
  have HNL := Lib.hid (show N ≤ L ∧ N ≤ R by
    by_cases hk : xk = 0
    · rw [if_neg (by simp [hk])] at hN; omega
    · rw [if_pos hk] at hN; omega)
  clear h0 hc hv hs hdl hf hfn hfi HPT HRN hR hL hN
  go_enter Try.func10, Try.ntmps10
  go_wp2_with fail
  refine HFI.out.mono ?_
  rintro e w1 ⟨rfl, rfl⟩
  clear HFI
  go_wp2_with fail
  refine HOP.out.mono ?_
  rintro e w2 ⟨rfl, ha⟩
  have HA := Lib.hid ha
  clear HOP ha xl
  go_wp2_with (refine wpList_store_blk (g := w2.heap.size) (k := 0) rfl 83 (.tmp 10) (.tmp 27) rfl [iv xa, iv xk, iv P] rfl rfl (Blk.new w2 83 #[iv 0, iv 0, iv 0]) (by kernel_rfl) (by simp) (by simp [Value.oneCell']) ?_)
  intro w3 hB hO
  have HB3 := Lib.hid (show Blk w3 w2.heap.size 83 #[iv xa, iv xk, iv P] by simpa using hB)
  have HO3 := Lib.hid (only_new hO)
  have HD3 := Lib.hid (HA.out.1.only0 HO3.out)
  have HXN := Lib.hid (show ¬ grow F w1 w2 w2.heap.size from fun hg => by have := HA.out.1.2 _ hg; omega)
  clear hB hO
  generalize hxb : w2.heap.size = xb at HB3 HXN ⊢
  have HXB := Lib.hid hxb
  clear hxb
  go_wp2_with fail
  refine (room_dk HD3.out).mono ?_
  rintro e w4 ⟨rfl, ho4⟩
  rw [HRE.out]
  have HO4 := Lib.hid (HO3.out.trans ho4)
  have HB4 := Lib.hid (HB3.out.only ho4 (by simp))
  have HD4 := Lib.hid (HD3.out.only0 ho4)
  clear HB3 HD3 HO3 ho4
  have x1 := HB4.out.cell 1
  have x2 := HB4.out.cell 2
  have xl := HB4.out.lt
  simp at x1 x2
  by_cases hlr : (L : Int) ≤ (R : Int)
  · by_cases hk : xk = 0
    · subst hk
      have e : L = N := by have := HNE.out; simp at this; omega
      subst e
      have HN := Lib.hid (show ¬ (L : Int) < (L : Int) by omega)
      go_upto_region 8 with fail
      clear x1 x2 xl
      obtain ⟨⟨nb4, lb4, pv4, fv4, bv4, lv4, H4⟩, hF4⟩ := HD4.out
      have HH4 := Lib.hid H4
      have HF4 := Lib.hid hF4
      have HFM := Lib.hid (H4.fs.file f HID.out)
      clear H4 hF4
      have HBS := Lib.hid (HFM.out.b)
      have HML := Lib.hid (show (data.take L).length = L from by rw [List.length_take, HLE.out]; have := HNL.out; omega)
      have HLN := Lib.hid (show (fs f).b.length + L ≤ 1073741824 from fit_ok HD4.out.ok (Dir.get_mem HFN.out) HFM.out.ok (by rw [HRE.out]; have := HNL.out; omega))
      have HSV := Lib.hid ((Sr.front (Go.Proofs.Ythekilgolelomaa.Sr.turn HV.out HA.out.2 HS.out) (k := L) (cap2 := scap) (by have := HNL.out; omega) (by have := HNL.out; omega) (Nat.le_refl _)).only0 HO4.out)
      rw [Nat.mul_one, ← byV_take] at HSV
      have x0 := HFM.out.blk.cell 0
      have xl := HFM.out.blk.lt
      have xff := HFM.out.blk.frozen
      obtain ⟨ba, bc, hbv, _, _⟩ := HBS.out.shape
      simp at x0
      rw [hbv] at x0 HBS
      have HBV := Lib.hid hbv
      clear hbv
      refine Lex.wp_region_text (by kernel_rfl) (by kernel_rfl) ?_
      go_wp2_with (at_builtin; refine wpList_append_slr rfl (.tmp 44) (.tmp 47) 29 rfl 5 j5 _ 1 1 Try.underlying29 si sz0 sz1 sz2 rfl (by decide) rfl HBS.out.drew rfl HSV.out.drew (by intro u hu; obtain ⟨c, _, rfl⟩ := List.mem_map.1 hu; rfl) (by have := HLN.out; unfold maxLen; omega) (by have := HLN.out; omega) ?_)
      intro v5 w5 hS5 hg5 hat5
      have HE := Lib.hid (app_fact HH4.out HF4.out HID.out (Only.refl [] w4).drew (xs := data.take L) (by rw [HML.out]; exact hS5) (by rw [HBV.out]; exact hg5) (by rw [HBV.out]; exact hat5) (by rw [HML.out]; exact HLN.out))
      obtain ⟨va, vc, hv5, _, _⟩ := hS5.shape
      subst hv5
      clear hS5 hg5 hat5 x0 xl xff HBS HSV HFM HH4 HF4 HLN HML HBV
      have xl := HE.out.1.lt
      have xff := HE.out.1.frozen
      have x0 := HE.out.1.cell 0
      simp at x0
      go_wp2_with fail
      refine Lex.sq_done (by rfl) ?_
      have HE2 := Lib.hid HE.out.2
      clear x0 xl xff HE
      generalize w5.setCell ⟨f, 0, none⟩ _ = w6 at HE2 ⊢
      obtain ⟨x14, xff, xl, ha7⟩ := bytes_dk HE2.out.1 (L : Int)
      have HA7 := Lib.hid ha7
      have HX4 := Lib.hid HB4.out.lt
      have HB6 := Lib.hid (Go.Proofs.Ythekilgolelomaa.Blk.turn HB4.out HE2.out.2 HXN.out)
      have HXN6 := Lib.hid (grow_not HXN.out HX4.out : ¬ grow (grow F w1 w2) w4 w6 xb)
      have HB7 := Lib.hid (Go.Proofs.Ythekilgolelomaa.Blk.turn HB6.out ha7.2 HXN6.out)
      clear ha7
      go_upto_region 10 with fail
      clear x14 xff xl
      generalize w6.setCell ⟨d, 14, none⟩ _ = w7 at HA7 HB7 ⊢
      have HBF := Lib.hid (befall_dk HA7.out.1 (xa, 0, (P : Int)) HC.out)
      unfold fltV at HBF
      dsimp only at HBF
      have x0 := HB7.out.cell 0
      have x1 := HB7.out.cell 1
      have x2 := HB7.out.cell 2
      have xl := HB7.out.lt
      simp at x0 x1 x2
      go_wp2_with fail
      refine HBF.out.mono ?_
      rintro e w8 ⟨rfl, ha8⟩
      have HE8 := Lib.hid (HA.out.trans (After.quiet_then HO4.out (HE2.out.trans (HA7.out.trans ha8))))
      clear HBF ha8 x0 x1 x2 xl HE2 HA7 HB7 HB6 HX4 HXN6
      have HAP := Lib.hid (show appR (xa, 0, (P : Int)) (L : Int) L = (if befR (xa, 0, (P : Int)) ≠ 0 then befR (xa, 0, (P : Int)) else if (L : Int) < L then 21 else 0) from rfl)
      generalize befR (xa, 0, (P : Int)) = br at HAP ⊢
      have hsp : br = 0 ∨ br ≠ 0 := Decidable.em _
      rcases hsp with hbr | hbr
      · subst hbr
        have hn := HN.out
        have HA2 := Lib.hid (show appR (xa, 0, (P : Int)) (L : Int) L = 0 by rw [HAP.out, if_neg (by simp)]; first | rw [if_pos hn] | rw [if_neg hn] | rw [if_neg (Int.not_lt.2 hn)])
        clear HAP
        go_wp2
        exact bodyPost_ret (results2 rfl (res_tmp rfl) (res_tmp rfl)) rfl ⟨by rw [HA2.out]; rfl, HE8.out⟩
      · have HA2 := Lib.hid (show appR (xa, 0, (P : Int)) (L : Int) L = br by rw [HAP.out, if_pos hbr])
        have k3 : (br != 0) = true := by simpa using hbr
        clear HAP hbr
        go_wp2
        exact bodyPost_ret (results2 rfl (res_tmp rfl) (res_tmp rfl)) rfl ⟨by rw [HA2.out]; rfl, HE8.out⟩
    · by_cases hp : (L : Int) ≤ (P : Int)
      · have e : L = N := by have := HNE.out; rw [if_pos hk] at this; omega
        subst e
        have k1 : (xk != 0) = true := by simpa using hk
        clear hk
        have HN := Lib.hid (show ¬ (L : Int) < (L : Int) by omega)
        go_upto_region 8 with fail
        clear x1 x2 xl
        obtain ⟨⟨nb4, lb4, pv4, fv4, bv4, lv4, H4⟩, hF4⟩ := HD4.out
        have HH4 := Lib.hid H4
        have HF4 := Lib.hid hF4
        have HFM := Lib.hid (H4.fs.file f HID.out)
        clear H4 hF4
        have HBS := Lib.hid (HFM.out.b)
        have HML := Lib.hid (show (data.take L).length = L from by rw [List.length_take, HLE.out]; have := HNL.out; omega)
        have HLN := Lib.hid (show (fs f).b.length + L ≤ 1073741824 from fit_ok HD4.out.ok (Dir.get_mem HFN.out) HFM.out.ok (by rw [HRE.out]; have := HNL.out; omega))
        have HSV := Lib.hid ((Sr.front (Go.Proofs.Ythekilgolelomaa.Sr.turn HV.out HA.out.2 HS.out) (k := L) (cap2 := scap) (by have := HNL.out; omega) (by have := HNL.out; omega) (Nat.le_refl _)).only0 HO4.out)
        rw [Nat.mul_one, ← byV_take] at HSV
        have x0 := HFM.out.blk.cell 0
        have xl := HFM.out.blk.lt
        have xff := HFM.out.blk.frozen
        obtain ⟨ba, bc, hbv, _, _⟩ := HBS.out.shape
        simp at x0
        rw [hbv] at x0 HBS
        have HBV := Lib.hid hbv
        clear hbv
        refine Lex.wp_region_text (by kernel_rfl) (by kernel_rfl) ?_
        go_wp2_with (at_builtin; refine wpList_append_slr rfl (.tmp 44) (.tmp 47) 29 rfl 5 j5 _ 1 1 Try.underlying29 si sz0 sz1 sz2 rfl (by decide) rfl HBS.out.drew rfl HSV.out.drew (by intro u hu; obtain ⟨c, _, rfl⟩ := List.mem_map.1 hu; rfl) (by have := HLN.out; unfold maxLen; omega) (by have := HLN.out; omega) ?_)
        intro v5 w5 hS5 hg5 hat5
        have HE := Lib.hid (app_fact HH4.out HF4.out HID.out (Only.refl [] w4).drew (xs := data.take L) (by rw [HML.out]; exact hS5) (by rw [HBV.out]; exact hg5) (by rw [HBV.out]; exact hat5) (by rw [HML.out]; exact HLN.out))
        obtain ⟨va, vc, hv5, _, _⟩ := hS5.shape
        subst hv5
        clear hS5 hg5 hat5 x0 xl xff HBS HSV HFM HH4 HF4 HLN HML HBV
        have xl := HE.out.1.lt
        have xff := HE.out.1.frozen
        have x0 := HE.out.1.cell 0
        simp at x0
        go_wp2_with fail
        refine Lex.sq_done (by rfl) ?_
        have HE2 := Lib.hid HE.out.2
        clear x0 xl xff HE
        generalize w5.setCell ⟨f, 0, none⟩ _ = w6 at HE2 ⊢
        obtain ⟨x14, xff, xl, ha7⟩ := bytes_dk HE2.out.1 (L : Int)
        have HA7 := Lib.hid ha7
        have HX4 := Lib.hid HB4.out.lt
        have HB6 := Lib.hid (Go.Proofs.Ythekilgolelomaa.Blk.turn HB4.out HE2.out.2 HXN.out)
        have HXN6 := Lib.hid (grow_not HXN.out HX4.out : ¬ grow (grow F w1 w2) w4 w6 xb)
        have HB7 := Lib.hid (Go.Proofs.Ythekilgolelomaa.Blk.turn HB6.out ha7.2 HXN6.out)
        clear ha7
        go_upto_region 10 with fail
        clear x14 xff xl
        generalize w6.setCell ⟨d, 14, none⟩ _ = w7 at HA7 HB7 ⊢
        have HBF := Lib.hid (befall_dk HA7.out.1 (xa, xk, (P : Int)) HC.out)
        unfold fltV at HBF
        dsimp only at HBF
        have x0 := HB7.out.cell 0
        have x1 := HB7.out.cell 1
        have x2 := HB7.out.cell 2
        have xl := HB7.out.lt
        simp at x0 x1 x2
        go_wp2_with fail
        refine HBF.out.mono ?_
        rintro e w8 ⟨rfl, ha8⟩
        have HE8 := Lib.hid (HA.out.trans (After.quiet_then HO4.out (HE2.out.trans (HA7.out.trans ha8))))
        clear HBF ha8 x0 x1 x2 xl HE2 HA7 HB7 HB6 HX4 HXN6
        have HAP := Lib.hid (show appR (xa, xk, (P : Int)) (L : Int) L = (if befR (xa, xk, (P : Int)) ≠ 0 then befR (xa, xk, (P : Int)) else if (L : Int) < L then 21 else 0) from rfl)
        generalize befR (xa, xk, (P : Int)) = br at HAP ⊢
        have hsp : br = 0 ∨ br ≠ 0 := Decidable.em _
        rcases hsp with hbr | hbr
        · subst hbr
          have hn := HN.out
          have HA2 := Lib.hid (show appR (xa, xk, (P : Int)) (L : Int) L = 0 by rw [HAP.out, if_neg (by simp)]; first | rw [if_pos hn] | rw [if_neg hn] | rw [if_neg (Int.not_lt.2 hn)])
          clear HAP
          go_wp2
          exact bodyPost_ret (results2 rfl (res_tmp rfl) (res_tmp rfl)) rfl ⟨by rw [HA2.out]; rfl, HE8.out⟩
        · have HA2 := Lib.hid (show appR (xa, xk, (P : Int)) (L : Int) L = br by rw [HAP.out, if_pos hbr])
          have k3 : (br != 0) = true := by simpa using hbr
          clear HAP hbr
          go_wp2
          exact bodyPost_ret (results2 rfl (res_tmp rfl) (res_tmp rfl)) rfl ⟨by rw [HA2.out]; rfl, HE8.out⟩
      · have e : P = N := by have := HNE.out; rw [if_pos hk] at this; omega
        subst e
        have k1 : (xk != 0) = true := by simpa using hk
        clear hk
        have HN := Lib.hid (show (P : Int) < (L : Int) by omega)
        go_upto_region 8 with fail
        clear x1 x2 xl
        obtain ⟨⟨nb4, lb4, pv4, fv4, bv4, lv4, H4⟩, hF4⟩ := HD4.out
        have HH4 := Lib.hid H4
        have HF4 := Lib.hid hF4
        have HFM := Lib.hid (H4.fs.file f HID.out)
        clear H4 hF4
        have HBS := Lib.hid (HFM.out.b)
        have HML := Lib.hid (show (data.take P).length = P from by rw [List.length_take, HLE.out]; have := HNL.out; omega)
        have HLN := Lib.hid (show (fs f).b.length + P ≤ 1073741824 from fit_ok HD4.out.ok (Dir.get_mem HFN.out) HFM.out.ok (by rw [HRE.out]; have := HNL.out; omega))
        have HSV := Lib.hid ((Sr.front (Go.Proofs.Ythekilgolelomaa.Sr.turn HV.out HA.out.2 HS.out) (k := P) (cap2 := scap) (by have := HNL.out; omega) (by have := HNL.out; omega) (Nat.le_refl _)).only0 HO4.out)
        rw [Nat.mul_one, ← byV_take] at HSV
        have x0 := HFM.out.blk.cell 0
        have xl := HFM.out.blk.lt
        have xff := HFM.out.blk.frozen
        obtain ⟨ba, bc, hbv, _, _⟩ := HBS.out.shape
        simp at x0
        rw [hbv] at x0 HBS
        have HBV := Lib.hid hbv
        clear hbv
        refine Lex.wp_region_text (by kernel_rfl) (by kernel_rfl) ?_
        go_wp2_with (at_builtin; refine wpList_append_slr rfl (.tmp 44) (.tmp 47) 29 rfl 5 j5 _ 1 1 Try.underlying29 si sz0 sz1 sz2 rfl (by decide) rfl HBS.out.drew rfl HSV.out.drew (by intro u hu; obtain ⟨c, _, rfl⟩ := List.mem_map.1 hu; rfl) (by have := HLN.out; unfold maxLen; omega) (by have := HLN.out; omega) ?_)
        intro v5 w5 hS5 hg5 hat5
        have HE := Lib.hid (app_fact HH4.out HF4.out HID.out (Only.refl [] w4).drew (xs := data.take P) (by rw [HML.out]; exact hS5) (by rw [HBV.out]; exact hg5) (by rw [HBV.out]; exact hat5) (by rw [HML.out]; exact HLN.out))
        obtain ⟨va, vc, hv5, _, _⟩ := hS5.shape
        subst hv5
        clear hS5 hg5 hat5 x0 xl xff HBS HSV HFM HH4 HF4 HLN HML HBV
        have xl := HE.out.1.lt
        have xff := HE.out.1.frozen
        have x0 := HE.out.1.cell 0
        simp at x0
        go_wp2_with fail
        refine Lex.sq_done (by rfl) ?_
        have HE2 := Lib.hid HE.out.2
        clear x0 xl xff HE
        generalize w5.setCell ⟨f, 0, none⟩ _ = w6 at HE2 ⊢
        obtain ⟨x14, xff, xl, ha7⟩ := bytes_dk HE2.out.1 (P : Int)
        have HA7 := Lib.hid ha7
        have HX4 := Lib.hid HB4.out.lt
        have HB6 := Lib.hid (Go.Proofs.Ythekilgolelomaa.Blk.turn HB4.out HE2.out.2 HXN.out)
        have HXN6 := Lib.hid (grow_not HXN.out HX4.out : ¬ grow (grow F w1 w2) w4 w6 xb)
        have HB7 := Lib.hid (Go.Proofs.Ythekilgolelomaa.Blk.turn HB6.out ha7.2 HXN6.out)
        clear ha7
        go_upto_region 10 with fail
        clear x14 xff xl
        generalize w6.setCell ⟨d, 14, none⟩ _ = w7 at HA7 HB7 ⊢
        have HBF := Lib.hid (befall_dk HA7.out.1 (xa, xk, (P : Int)) HC.out)
        unfold fltV at HBF
        dsimp only at HBF
        have x0 := HB7.out.cell 0
        have x1 := HB7.out.cell 1
        have x2 := HB7.out.cell 2
        have xl := HB7.out.lt
        simp at x0 x1 x2
        go_wp2_with fail
        refine HBF.out.mono ?_
        rintro e w8 ⟨rfl, ha8⟩
        have HE8 := Lib.hid (HA.out.trans (After.quiet_then HO4.out (HE2.out.trans (HA7.out.trans ha8))))
        clear HBF ha8 x0 x1 x2 xl HE2 HA7 HB7 HB6 HX4 HXN6
        have HAP := Lib.hid (show appR (xa, xk, (P : Int)) (P : Int) L = (if befR (xa, xk, (P : Int)) ≠ 0 then befR (xa, xk, (P : Int)) else if (P : Int) < L then 21 else 0) from rfl)
        generalize befR (xa, xk, (P : Int)) = br at HAP ⊢
        have hsp : br = 0 ∨ br ≠ 0 := Decidable.em _
        rcases hsp with hbr | hbr
        · subst hbr
          have hn := HN.out
          have HA2 := Lib.hid (show appR (xa, xk, (P : Int)) (P : Int) L = 21 by rw [HAP.out, if_neg (by simp)]; first | rw [if_pos hn] | rw [if_neg hn] | rw [if_neg (Int.not_lt.2 hn)])
          clear HAP
          go_wp2
          exact bodyPost_ret (results2 rfl (res_tmp rfl) (res_tmp rfl)) rfl ⟨by rw [HA2.out]; rfl, HE8.out⟩
        · have HA2 := Lib.hid (show appR (xa, xk, (P : Int)) (P : Int) L = br by rw [HAP.out, if_pos hbr])
          have k3 : (br != 0) = true := by simpa using hbr
          clear HAP hbr
          go_wp2
          exact bodyPost_ret (results2 rfl (res_tmp rfl) (res_tmp rfl)) rfl ⟨by rw [HA2.out]; rfl, HE8.out⟩
  · by_cases hk : xk = 0
    · subst hk
      have e : R = N := by have := HNE.out; simp at this; omega
      subst e
      have HN := Lib.hid (show (R : Int) < (L : Int) by omega)
      go_upto_region 8 with fail
      clear x1 x2 xl
      obtain ⟨⟨nb4, lb4, pv4, fv4, bv4, lv4, H4⟩, hF4⟩ := HD4.out
      have HH4 := Lib.hid H4
      have HF4 := Lib.hid hF4
      have HFM := Lib.hid (H4.fs.file f HID.out)
      clear H4 hF4
      have HBS := Lib.hid (HFM.out.b)
      have HML := Lib.hid (show (data.take R).length = R from by rw [List.length_take, HLE.out]; have := HNL.out; omega)
      have HLN := Lib.hid (show (fs f).b.length + R ≤ 1073741824 from fit_ok HD4.out.ok (Dir.get_mem HFN.out) HFM.out.ok (by rw [HRE.out]; have := HNL.out; omega))
      have HSV := Lib.hid ((Sr.front (Go.Proofs.Ythekilgolelomaa.Sr.turn HV.out HA.out.2 HS.out) (k := R) (cap2 := scap) (by have := HNL.out; omega) (by have := HNL.out; omega) (Nat.le_refl _)).only0 HO4.out)
      rw [Nat.mul_one, ← byV_take] at HSV
      have x0 := HFM.out.blk.cell 0
      have xl := HFM.out.blk.lt
      have xff := HFM.out.blk.frozen
      obtain ⟨ba, bc, hbv, _, _⟩ := HBS.out.shape
      simp at x0
      rw [hbv] at x0 HBS
      have HBV := Lib.hid hbv
      clear hbv
      refine Lex.wp_region_text (by kernel_rfl) (by kernel_rfl) ?_
      go_wp2_with (at_builtin; refine wpList_append_slr rfl (.tmp 44) (.tmp 47) 29 rfl 5 j5 _ 1 1 Try.underlying29 si sz0 sz1 sz2 rfl (by decide) rfl HBS.out.drew rfl HSV.out.drew (by intro u hu; obtain ⟨c, _, rfl⟩ := List.mem_map.1 hu; rfl) (by have := HLN.out; unfold maxLen; omega) (by have := HLN.out; omega) ?_)
      intro v5 w5 hS5 hg5 hat5
      have HE := Lib.hid (app_fact HH4.out HF4.out HID.out (Only.refl [] w4).drew (xs := data.take R) (by rw [HML.out]; exact hS5) (by rw [HBV.out]; exact hg5) (by rw [HBV.out]; exact hat5) (by rw [HML.out]; exact HLN.out))
      obtain ⟨va, vc, hv5, _, _⟩ := hS5.shape
      subst hv5
      clear hS5 hg5 hat5 x0 xl xff HBS HSV HFM HH4 HF4 HLN HML HBV
      have xl := HE.out.1.lt
      have xff := HE.out.1.frozen
      have x0 := HE.out.1.cell 0
      simp at x0
      go_wp2_with fail
      refine Lex.sq_done (by rfl) ?_
      have HE2 := Lib.hid HE.out.2
      clear x0 xl xff HE
      generalize w5.setCell ⟨f, 0, none⟩ _ = w6 at HE2 ⊢
      obtain ⟨x14, xff, xl, ha7⟩ := bytes_dk HE2.out.1 (R : Int)
      have HA7 := Lib.hid ha7
      have HX4 := Lib.hid HB4.out.lt
      have HB6 := Lib.hid (Go.Proofs.Ythekilgolelomaa.Blk.turn HB4.out HE2.out.2 HXN.out)
      have HXN6 := Lib.hid (grow_not HXN.out HX4.out : ¬ grow (grow F w1 w2) w4 w6 xb)
      have HB7 := Lib.hid (Go.Proofs.Ythekilgolelomaa.Blk.turn HB6.out ha7.2 HXN6.out)
      clear ha7
      go_upto_region 10 with fail
      clear x14 xff xl
      generalize w6.setCell ⟨d, 14, none⟩ _ = w7 at HA7 HB7 ⊢
      have HBF := Lib.hid (befall_dk HA7.out.1 (xa, 0, (P : Int)) HC.out)
      unfold fltV at HBF
      dsimp only at HBF
      have x0 := HB7.out.cell 0
      have x1 := HB7.out.cell 1
      have x2 := HB7.out.cell 2
      have xl := HB7.out.lt
      simp at x0 x1 x2
      go_wp2_with fail
      refine HBF.out.mono ?_
      rintro e w8 ⟨rfl, ha8⟩
      have HE8 := Lib.hid (HA.out.trans (After.quiet_then HO4.out (HE2.out.trans (HA7.out.trans ha8))))
      clear HBF ha8 x0 x1 x2 xl HE2 HA7 HB7 HB6 HX4 HXN6
      have HAP := Lib.hid (show appR (xa, 0, (P : Int)) (R : Int) L = (if befR (xa, 0, (P : Int)) ≠ 0 then befR (xa, 0, (P : Int)) else if (R : Int) < L then 21 else 0) from rfl)
      generalize befR (xa, 0, (P : Int)) = br at HAP ⊢
      have hsp : br = 0 ∨ br ≠ 0 := Decidable.em _
      rcases hsp with hbr | hbr
      · subst hbr
        have hn := HN.out
        have HA2 := Lib.hid (show appR (xa, 0, (P : Int)) (R : Int) L = 21 by rw [HAP.out, if_neg (by simp)]; first | rw [if_pos hn] | rw [if_neg hn] | rw [if_neg (Int.not_lt.2 hn)])
        clear HAP
        go_wp2
        exact bodyPost_ret (results2 rfl (res_tmp rfl) (res_tmp rfl)) rfl ⟨by rw [HA2.out]; rfl, HE8.out⟩
      · have HA2 := Lib.hid (show appR (xa, 0, (P : Int)) (R : Int) L = br by rw [HAP.out, if_pos hbr])
        have k3 : (br != 0) = true := by simpa using hbr
        clear HAP hbr
        go_wp2
        exact bodyPost_ret (results2 rfl (res_tmp rfl) (res_tmp rfl)) rfl ⟨by rw [HA2.out]; rfl, HE8.out⟩
    · by_cases hp : (R : Int) ≤ (P : Int)
      · have e : R = N := by have := HNE.out; rw [if_pos hk] at this; omega
        subst e
        have k1 : (xk != 0) = true := by simpa using hk
        clear hk
        have HN := Lib.hid (show (R : Int) < (L : Int) by omega)
        go_upto_region 8 with fail
        clear x1 x2 xl
        obtain ⟨⟨nb4, lb4, pv4, fv4, bv4, lv4, H4⟩, hF4⟩ := HD4.out
        have HH4 := Lib.hid H4
        have HF4 := Lib.hid hF4
        have HFM := Lib.hid (H4.fs.file f HID.out)
        clear H4 hF4
        have HBS := Lib.hid (HFM.out.b)
        have HML := Lib.hid (show (data.take R).length = R from by rw [List.length_take, HLE.out]; have := HNL.out; omega)
        have HLN := Lib.hid (show (fs f).b.length + R ≤ 1073741824 from fit_ok HD4.out.ok (Dir.get_mem HFN.out) HFM.out.ok (by rw [HRE.out]; have := HNL.out; omega))
        have HSV := Lib.hid ((Sr.front (Go.Proofs.Ythekilgolelomaa.Sr.turn HV.out HA.out.2 HS.out) (k := R) (cap2 := scap) (by have := HNL.out; omega) (by have := HNL.out; omega) (Nat.le_refl _)).only0 HO4.out)
        rw [Nat.mul_one, ← byV_take] at HSV
        have x0 := HFM.out.blk.cell 0
        have xl := HFM.out.blk.lt
        have xff := HFM.out.blk.frozen
        obtain ⟨ba, bc, hbv, _, _⟩ := HBS.out.shape
        simp at x0
        rw [hbv] at x0 HBS
        have HBV := Lib.hid hbv
        clear hbv
        refine Lex.wp_region_text (by kernel_rfl) (by kernel_rfl) ?_
        go_wp2_with (at_builtin; refine wpList_append_slr rfl (.tmp 44) (.tmp 47) 29 rfl 5 j5 _ 1 1 Try.underlying29 si sz0 sz1 sz2 rfl (by decide) rfl HBS.out.drew rfl HSV.out.drew (by intro u hu; obtain ⟨c, _, rfl⟩ := List.mem_map.1 hu; rfl) (by have := HLN.out; unfold maxLen; omega) (by have := HLN.out; omega) ?_)
        intro v5 w5 hS5 hg5 hat5
        have HE := Lib.hid (app_fact HH4.out HF4.out HID.out (Only.refl [] w4).drew (xs := data.take R) (by rw [HML.out]; exact hS5) (by rw [HBV.out]; exact hg5) (by rw [HBV.out]; exact hat5) (by rw [HML.out]; exact HLN.out))
        obtain ⟨va, vc, hv5, _, _⟩ := hS5.shape
        subst hv5
        clear hS5 hg5 hat5 x0 xl xff HBS HSV HFM HH4 HF4 HLN HML HBV
        have xl := HE.out.1.lt
        have xff := HE.out.1.frozen
        have x0 := HE.out.1.cell 0
        simp at x0
        go_wp2_with fail
        refine Lex.sq_done (by rfl) ?_
        have HE2 := Lib.hid HE.out.2
        clear x0 xl xff HE
        generalize w5.setCell ⟨f, 0, none⟩ _ = w6 at HE2 ⊢
        obtain ⟨x14, xff, xl, ha7⟩ := bytes_dk HE2.out.1 (R : Int)
        have HA7 := Lib.hid ha7
        have HX4 := Lib.hid HB4.out.lt
        have HB6 := Lib.hid (Go.Proofs.Ythekilgolelomaa.Blk.turn HB4.out HE2.out.2 HXN.out)
        have HXN6 := Lib.hid (grow_not HXN.out HX4.out : ¬ grow (grow F w1 w2) w4 w6 xb)
        have HB7 := Lib.hid (Go.Proofs.Ythekilgolelomaa.Blk.turn HB6.out ha7.2 HXN6.out)
        clear ha7
        go_upto_region 10 with fail
        clear x14 xff xl
        generalize w6.setCell ⟨d, 14, none⟩ _ = w7 at HA7 HB7 ⊢
        have HBF := Lib.hid (befall_dk HA7.out.1 (xa, xk, (P : Int)) HC.out)
        unfold fltV at HBF
        dsimp only at HBF
        have x0 := HB7.out.cell 0
        have x1 := HB7.out.cell 1
        have x2 := HB7.out.cell 2
        have xl := HB7.out.lt
        simp at x0 x1 x2
        go_wp2_with fail
        refine HBF.out.mono ?_
        rintro e w8 ⟨rfl, ha8⟩
        have HE8 := Lib.hid (HA.out.trans (After.quiet_then HO4.out (HE2.out.trans (HA7.out.trans ha8))))
        clear HBF ha8 x0 x1 x2 xl HE2 HA7 HB7 HB6 HX4 HXN6
        have HAP := Lib.hid (show appR (xa, xk, (P : Int)) (R : Int) L = (if befR (xa, xk, (P : Int)) ≠ 0 then befR (xa, xk, (P : Int)) else if (R : Int) < L then 21 else 0) from rfl)
        generalize befR (xa, xk, (P : Int)) = br at HAP ⊢
        have hsp : br = 0 ∨ br ≠ 0 := Decidable.em _
        rcases hsp with hbr | hbr
        · subst hbr
          have hn := HN.out
          have HA2 := Lib.hid (show appR (xa, xk, (P : Int)) (R : Int) L = 21 by rw [HAP.out, if_neg (by simp)]; first | rw [if_pos hn] | rw [if_neg hn] | rw [if_neg (Int.not_lt.2 hn)])
          clear HAP
          go_wp2
          exact bodyPost_ret (results2 rfl (res_tmp rfl) (res_tmp rfl)) rfl ⟨by rw [HA2.out]; rfl, HE8.out⟩
        · have HA2 := Lib.hid (show appR (xa, xk, (P : Int)) (R : Int) L = br by rw [HAP.out, if_pos hbr])
          have k3 : (br != 0) = true := by simpa using hbr
          clear HAP hbr
          go_wp2
          exact bodyPost_ret (results2 rfl (res_tmp rfl) (res_tmp rfl)) rfl ⟨by rw [HA2.out]; rfl, HE8.out⟩
      · have e : P = N := by have := HNE.out; rw [if_pos hk] at this; omega
        subst e
        have k1 : (xk != 0) = true := by simpa using hk
        clear hk
        have HN := Lib.hid (show (P : Int) < (L : Int) by omega)
        go_upto_region 8 with fail
        clear x1 x2 xl
        obtain ⟨⟨nb4, lb4, pv4, fv4, bv4, lv4, H4⟩, hF4⟩ := HD4.out
        have HH4 := Lib.hid H4
        have HF4 := Lib.hid hF4
        have HFM := Lib.hid (H4.fs.file f HID.out)
        clear H4 hF4
        have HBS := Lib.hid (HFM.out.b)
        have HML := Lib.hid (show (data.take P).length = P from by rw [List.length_take, HLE.out]; have := HNL.out; omega)
        have HLN := Lib.hid (show (fs f).b.length + P ≤ 1073741824 from fit_ok HD4.out.ok (Dir.get_mem HFN.out) HFM.out.ok (by rw [HRE.out]; have := HNL.out; omega))
        have HSV := Lib.hid ((Sr.front (Go.Proofs.Ythekilgolelomaa.Sr.turn HV.out HA.out.2 HS.out) (k := P) (cap2 := scap) (by have := HNL.out; omega) (by have := HNL.out; omega) (Nat.le_refl _)).only0 HO4.out)
        rw [Nat.mul_one, ← byV_take] at HSV
        have x0 := HFM.out.blk.cell 0
        have xl := HFM.out.blk.lt
        have xff := HFM.out.blk.frozen
        obtain ⟨ba, bc, hbv, _, _⟩ := HBS.out.shape
        simp at x0
        rw [hbv] at x0 HBS
        have HBV := Lib.hid hbv
        clear hbv
        refine Lex.wp_region_text (by kernel_rfl) (by kernel_rfl) ?_
        go_wp2_with (at_builtin; refine wpList_append_slr rfl (.tmp 44) (.tmp 47) 29 rfl 5 j5 _ 1 1 Try.underlying29 si sz0 sz1 sz2 rfl (by decide) rfl HBS.out.drew rfl HSV.out.drew (by intro u hu; obtain ⟨c, _, rfl⟩ := List.mem_map.1 hu; rfl) (by have := HLN.out; unfold maxLen; omega) (by have := HLN.out; omega) ?_)
        intro v5 w5 hS5 hg5 hat5
        have HE := Lib.hid (app_fact HH4.out HF4.out HID.out (Only.refl [] w4).drew (xs := data.take P) (by rw [HML.out]; exact hS5) (by rw [HBV.out]; exact hg5) (by rw [HBV.out]; exact hat5) (by rw [HML.out]; exact HLN.out))
        obtain ⟨va, vc, hv5, _, _⟩ := hS5.shape
        subst hv5
        clear hS5 hg5 hat5 x0 xl xff HBS HSV HFM HH4 HF4 HLN HML HBV
        have xl := HE.out.1.lt
        have xff := HE.out.1.frozen
        have x0 := HE.out.1.cell 0
        simp at x0
        go_wp2_with fail
        refine Lex.sq_done (by rfl) ?_
        have HE2 := Lib.hid HE.out.2
        clear x0 xl xff HE
        generalize w5.setCell ⟨f, 0, none⟩ _ = w6 at HE2 ⊢
        obtain ⟨x14, xff, xl, ha7⟩ := bytes_dk HE2.out.1 (P : Int)
        have HA7 := Lib.hid ha7
        have HX4 := Lib.hid HB4.out.lt
        have HB6 := Lib.hid (Go.Proofs.Ythekilgolelomaa.Blk.turn HB4.out HE2.out.2 HXN.out)
        have HXN6 := Lib.hid (grow_not HXN.out HX4.out : ¬ grow (grow F w1 w2) w4 w6 xb)
        have HB7 := Lib.hid (Go.Proofs.Ythekilgolelomaa.Blk.turn HB6.out ha7.2 HXN6.out)
        clear ha7
        go_upto_region 10 with fail
        clear x14 xff xl
        generalize w6.setCell ⟨d, 14, none⟩ _ = w7 at HA7 HB7 ⊢
        have HBF := Lib.hid (befall_dk HA7.out.1 (xa, xk, (P : Int)) HC.out)
        unfold fltV at HBF
        dsimp only at HBF
        have x0 := HB7.out.cell 0
        have x1 := HB7.out.cell 1
        have x2 := HB7.out.cell 2
        have xl := HB7.out.lt
        simp at x0 x1 x2
        go_wp2_with fail
        refine HBF.out.mono ?_
        rintro e w8 ⟨rfl, ha8⟩
        have HE8 := Lib.hid (HA.out.trans (After.quiet_then HO4.out (HE2.out.trans (HA7.out.trans ha8))))
        clear HBF ha8 x0 x1 x2 xl HE2 HA7 HB7 HB6 HX4 HXN6
        have HAP := Lib.hid (show appR (xa, xk, (P : Int)) (P : Int) L = (if befR (xa, xk, (P : Int)) ≠ 0 then befR (xa, xk, (P : Int)) else if (P : Int) < L then 21 else 0) from rfl)
        generalize befR (xa, xk, (P : Int)) = br at HAP ⊢
        have hsp : br = 0 ∨ br ≠ 0 := Decidable.em _
        rcases hsp with hbr | hbr
        · subst hbr
          have hn := HN.out
          have HA2 := Lib.hid (show appR (xa, xk, (P : Int)) (P : Int) L = 21 by rw [HAP.out, if_neg (by simp)]; first | rw [if_pos hn] | rw [if_neg hn] | rw [if_neg (Int.not_lt.2 hn)])
          clear HAP
          go_wp2
          exact bodyPost_ret (results2 rfl (res_tmp rfl) (res_tmp rfl)) rfl ⟨by rw [HA2.out]; rfl, HE8.out⟩
        · have HA2 := Lib.hid (show appR (xa, xk, (P : Int)) (P : Int) L = br by rw [HAP.out, if_pos hbr])
          have k3 : (br != 0) = true := by simpa using hbr
          clear HAP hbr
          go_wp2
          exact bodyPost_ret (results2 rfl (res_tmp rfl) (res_tmp rfl)) rfl ⟨by rw [HA2.out]; rfl, HE8.out⟩
set_option maxRecDepth 100000 in
theorem append_none (h0 : DK w F d p fs ids) {s : Nm} (v : Value) {e : Int} (hf : findR p s = (none, e)) (he : e ≠ 0) : Calls Try.prog 10 #[cp d, sk s, v] w fun e' w' =>
    e' = .returned (.tuple #[iv 0, iv e]) ∧ w' = w := by
  have HFI := Lib.hid (find_dk h0 s)
  rw [hf] at HFI
  dsimp only [optP] at HFI
  have k0 : (e != 0) = true := by simpa using he
  clear h0 hf he
  go_enter Try.func10, Try.ntmps10
  go_wp2_with fail
  refine HFI.out.mono ?_
  rintro e w1 ⟨rfl, rfl⟩
  go_wp2
  exact bodyPost_ret (results2 rfl (res_tmp rfl) (res_tmp rfl)) rfl ⟨rfl, rfl⟩
theorem append_ok (h0 : DK w F d p fs ids) (hc : p.calm) (s : Nm) {data : List UInt8} {v : Value} (hv : Sr w 1 v data.length (byV data)) (hs : Off F v data.length) (hdl : data.length ≤ 1048576) :
    Calls Try.prog 10 #[cp d, sk s, v] w fun e w' =>
      e = .returned (.tuple #[iv (p.append fs s data).1.1, iv (p.append fs s data).1.2]) ∧ After w F d (p.append fs s data).2.1 (p.append fs s data).2.2 ids w' := by
  unfold PD.append
  by_cases he : (findR p s).2 = 0
  · obtain ⟨f, hf, hn, hi⟩ := find_dk_some h0 he
    rw [hf]
    exact append_some h0 hc hv hs hdl hf hn hi
  · have hn := find_none he
    generalize hf : findR p s = r at he hn ⊢
    obtain ⟨fo, fe⟩ := r
    dsimp only at hn he
    subst hn
    refine (append_none h0 v hf he).mono ?_
    rintro e w' ⟨rfl, rfl⟩
    exact ⟨rfl, After.same h0⟩
end
end Go.Proofs.Ythekilgolelomaa
