/-
  The disk: Pending, Files, Lasting.
-/
import Derived.Test.YthekilgolelomaaKa
import Derived.Test.YthekilgolelomaaDu
set_option linter.unusedSimpArgs false
set_option linter.unusedVariables false
namespace Go.Proofs.Ythekilgolelomaa
open Go.RowKit Go.Fl

/-- Files that are told: name, bytes. -/
abbrev Fl3 := Nm × Value × List UInt8
def fcells (L : List Fl3) : List Value := (L.map fun x => [sk x.1, x.2.1]).flatten
structure FLs (w : World) (base : Nat) (v : Value) (L : List Fl3) : Prop where
  sl : Sl w 112 2 v L.length (fcells L)
  each : ∀ x ∈ L, Sl w 5 1 x.2.1 x.2.2.length (byV x.2.2)
  own : ∀ x ∈ L, ∀ g, x.2.1.ownBlock = some g → base ≤ g
  vown : ∀ g, v.ownBlock = some g → base ≤ g
  dis : L.Pairwise fun x y => ∀ g, x.2.1.ownBlock = some g → y.2.1.ownBlock ≠ some g
/-- What they tell. -/
def told3 (L : List Fl3) : List (Nm × List UInt8) := L.map fun x => (x.1, x.2.2)
theorem fcells_snoc (L : List Fl3) (x : Fl3) : fcells (L ++ [x]) = fcells L ++ [sk x.1, x.2.1] := by
  unfold fcells
  rw [List.map_append, List.flatten_append]
  simp
section
variable {w wa wb w' : World} {base : Nat} {v : Value} {L : List Fl3}
theorem FLs.nil (w : World) (base : Nat) : FLs w base (.slice none 0 0) [] := ⟨Sl.nil _ _ _, by simp, by simp, (fun g hg => by cases hg), List.Pairwise.nil⟩
theorem FLs.only0 (h : FLs w base v L) (ho : Only [] w w') : FLs w' base v L := ⟨h.sl.only ho (by simp), fun x hx => (h.each x hx).only ho (by simp), h.own, h.vown, h.dis⟩
theorem FLs.mono {b2 : Nat} (h : FLs w base v L) (hb : b2 ≤ base) : FLs w b2 v L := ⟨h.sl, h.each, fun x hx g hg => Nat.le_trans hb (h.own x hx g hg), fun g hg => Nat.le_trans hb (h.vown g hg), h.dis⟩
theorem FLs.snoc (h : FLs w base v L) (hb : base ≤ w.heap.size) {s : Nm} {u v' : Value} {l : List UInt8} {o : Obj} (hoa : Only [] w wa) (hu : Sl wa 5 1 u l.length (byV l)) (huo : ∀ g, u.ownBlock = some g → w.heap.size ≤ g)
    (hs : Sl wb 112 2 v' (L.length + 1) (fcells L ++ [sk s, u])) (hg : (wa.alloc o).grownBy wb v.ownBlock) (hat : v'.ownBlock = v.ownBlock ∨ v'.ownBlock = some (wa.alloc o).heap.size) : FLs wb base v' (L ++ [(s, u, l)]) := by
  have hvl : ∀ g, v.ownBlock = some g → ∃ cur, Blk w g 112 cur := fun g hg => Go.Proofs.Ythekilgolelomaa.Sl.blk h.sl hg
  have ho : Only v.ownBlock.toList w wb := ((hoa.mono (by simp)).alloc o).grown hg fun k hk => .inl (by simp [hk])
  have hua : ∀ g, u.ownBlock = some g → v.ownBlock ≠ some g := fun g hg he => by
    obtain ⟨cur, hc⟩ := hvl g he
    have := hc.lt
    have := huo g hg
    omega
  refine ⟨?_, fun x hx => ?_, fun x hx => ?_, fun g hg => ?_, ?_⟩
  · rw [fcells_snoc, List.length_append]
    exact hs
  · rcases List.mem_append.1 hx with hx | hx
    · exact (h.each x hx).only ho fun g hg hm => by
        obtain ⟨cur, hc⟩ := Go.Proofs.Ythekilgolelomaa.Sl.blk (h.each x hx) hg
        obtain ⟨cur2, hc2⟩ := hvl g (by simpa using hm)
        exact Blk.ne_ hc hc2 (by decide) rfl
    · rw [List.mem_singleton.1 hx]
      exact (hu.alloc o).keep fun g hg2 => hg.block g ((hu.alloc o).lt g hg2) fun e => hua g hg2 e.symm
  · intro g hg
    rcases List.mem_append.1 hx with hx | hx
    · exact h.own x hx g hg
    · rw [List.mem_singleton.1 hx] at hg
      exact Nat.le_trans hb (huo g hg)
  · rcases hat with e | e
    · exact h.vown g (e ▸ hg)
    · rw [e] at hg
      injection hg with hg
      have := hoa.size
      simp at hg
      omega
  · refine List.pairwise_append.2 ⟨h.dis, List.pairwise_singleton _ _, fun x hx y hy g hg hg2 => ?_⟩
    rw [List.mem_singleton.1 hy] at hg2
    have h1 := (h.each x hx).lt g hg
    have h2 := huo g hg2
    omega
end
theorem info_file : (Try.prog.info? 112).map (fun i => (i.zero, i.size, i.bytes)) = some (some (.agg #[.string ⟨#[]⟩, .slice none 0 0]), 2, 40) := by kernel_rfl
section
variable {w w' : World} {F G : Nat → Prop} {d : Nat} {p p' : PD} {fs : Nat → FD} {ids : Nat → Prop} {nb lb : Nat} {pv fv pv' fv' : Value} {bv lv : Nat → Value}
set_option maxRecDepth 100000 in
theorem pending_ok (h0 : DK w F d p fs ids) : Calls Try.prog 26 #[cp d] w fun e w' => e = .returned (iv p.pend.length) ∧ w' = w := by
  obtain ⟨⟨nb, lb, pv, fv, bv, lv, h⟩, hF⟩ := h0
  obtain ⟨pa, pc, hpv, _, _⟩ := h.dm.pend.shape
  have x5 := h.dm.blk.cell 5
  have xl := h.dm.blk.lt
  simp [dcells] at x5
  rw [hpv] at x5
  clear h hF
  go_enter Try.func26, Try.ntmps26
  go_wp2
  exact bodyPost_ret (results_tmp rfl _ _ _) rfl ⟨rfl, rfl⟩
/-- What a directory's files hold. -/
def shown (sel : FD → List UInt8) (fs : Nat → FD) (A : Dir) : List (Nm × List UInt8) := A.map fun x => (x.1, sel (fs x.2))
theorem shown_snoc {sel : FD → List UInt8} {fs : Nat → FD} {A : Dir} {k : Nat} (h : k < A.length) : shown sel fs (A.take (k + 1)) = shown sel fs (A.take k) ++ [((A[k]).1, sel (fs (A[k]).2))] := by
  unfold shown
  rw [List.take_succ_eq_append_getElem h, List.map_append]
  rfl
set_option maxRecDepth 100000 in
set_option maxHeartbeats 3200000 in
theorem files_ok (h0 : DK w F d p fs ids) : Calls Try.prog 27 #[cp d] w fun e w' =>
    ∃ v, e = .returned v ∧ ∃ L, FLs w' w.heap.size v L ∧ told3 L = shown FD.b fs p.now ∧ Only [] w w' := by
  obtain ⟨⟨nb, lb, pv, fv, bv, lv, h⟩, hF⟩ := h0
  obtain ⟨j5, si, sz0, sz1, sz2⟩ := info_parts info_file
  obtain ⟨k5, ti, tz0, tz1, tz2⟩ := info_parts info5
  have H := Lib.hid h
  have HNM := Lib.hid (names_ok h.dm.now (h.ok.names) (Nat.le_trans (h.ok.len.1) (by decide)))
  have HSR := Lib.hid (h.ok.snow)
  have HLV := Lib.hid (h.live.now)
  have HDM := Lib.hid (h.dm.now)
  have HBK := Lib.hid (h.dm.blk)
  have x := h.dm.blk.cell 3
  have xl := h.dm.blk.lt
  simp [dcells] at x
  obtain ⟨M, hM⟩ : ∃ M, p.now.length = M := ⟨_, rfl⟩
  have HM := Lib.hid hM
  have HML := Lib.hid (show M ≤ 256 from hM ▸ h.ok.len.1)
  rw [hM] at HNM
  clear h hF hM
  go_enter Try.func27, Try.ntmps27
  go_wp2_with fail
  refine HNM.out.mono ?_
  rintro e w2 ⟨nv, rfl, hs2, ho2, hw2⟩
  obtain ⟨na, nc, hnv, _, _⟩ := hs2.shape
  subst hnv
  have HS2 := Lib.hid hs2
  have HO2 := Lib.hid ho2
  clear HNM hs2 ho2 hw2 x xl
  go_wp2
  go_loopw [3, 14] (fun z3 z14 wr => ∃ (k : Nat) (L : List Fl3), z14 = .int .i64 k ∧ Hid (k ≤ M) ∧ Hid (FLs wr w2.heap.size z3 L) ∧ Hid (told3 L = shown FD.b fs (p.now.take k)) ∧ Hid (Only [] w2 wr)) (fun _ z14 _ => M - (intOf z14).toNat)
  case atStart => exact ⟨0, [], rfl, Lib.hid (Nat.zero_le _), Lib.hid (FLs.nil _ _), Lib.hid rfl, Lib.hid (Only.refl _ _)⟩
  case round =>
    obtain ⟨k, L, rfl, HK, HS, HT, HO⟩ := hrel
    by_cases hkl : k < M
    case neg =>
      have hkz : ¬ (k : Int) < (M : Int) := nlt_z hkl
      have HE := Lib.hid (Nat.le_antisymm HK.out (Nat.le_of_not_lt hkl))
      clear hkl
      go_wp2
      refine bodyPost_ret (results_tmp rfl _ _ _) rfl ⟨_, rfl, L, FLs.mono (by exact HS.out) HO2.out.size, ?_, HO2.out.trans HO.out⟩
      have h1 := HT.out
      rw [HE.out, ← HM.out, List.take_length] at h1
      exact h1
    have hkz : (k : Int) < (M : Int) := lt_z hkl
    have hka : k < p.now.length := by rw [HM.out]; exact hkl
    have hLk : L.length = k := by
      have h1 := congrArg List.length HT.out
      unfold told3 shown at h1
      rw [List.length_map, List.length_map, List.length_take] at h1
      omega
    have HLK := Lib.hid hLk
    have HSN := Lib.hid (HS2.out.only HO.out (by simp))
    obtain ⟨g, o, c', hv, hfm⟩ := HSN.out.form (by omega)
    injection hv with hva hvl hvc
    subst hva
    subst hvc
    clear hvl hfm
    have y0 := HSN.out.cells_ k (sk (p.now[k]).1) (by simp [hka])
    rw [Addr.add_lit] at y0
    have hm := List.getElem_mem hka
    have hget : p.now.get (p.now[k]).1 = some (p.now[k]).2 := Dir.get_some HSR.out.nod (by exact hm)
    have HID2 := Lib.hid (HLV.out _ hm)
    have HTC := Lib.hid (shown_snoc (sel := FD.b) (fs := fs) hka)
    obtain ⟨⟨s, f⟩, hx⟩ : ∃ x, p.now[k] = x := ⟨_, rfl⟩
    rw [hx] at y0 hget HID2 HTC
    dsimp only at y0 hget HID2 HTC
    have HOW := Lib.hid (HO2.out.trans HO.out)
    have HDW := Lib.hid (HDM.out.only HOW.out (by simp))
    have hl := DMap.lookup (P := Try.prog) HDW.out Try.underlying56 Try.underlying9 zero79 s
    rw [hget] at hl
    unfold optP at hl
    have HFM := Lib.hid (FM.only0 (H.out.fs.file f HID2.out) HOW.out)
    have HLF := Lib.hid (show (FD.b (fs f)).length ≤ 1073741824 by have := HFM.out.ok.1; have := HFM.out.ok.2.2; omega)
    have HBW := Lib.hid (HBK.out.only HOW.out (by simp))
    have x := HBW.out.cell 3
    have xl := HBW.out.lt
    simp [dcells] at x
    have y := HFM.out.blk.cell 0
    have yl := HFM.out.blk.lt
    simp at y
    have HBV := Lib.hid (HFM.out.b)
    obtain ⟨ba, bc, hbv, hbc, _⟩ := HFM.out.b.shape
    rw [hbv] at y HBV
    have e8 := wrap_sm (by have := HML.out; omega) hkl
    have HMS := Lib.hid (meas hkl)
    have HKL := Lib.hid hkl
    obtain ⟨za, zc, hzv, _, _⟩ := HS.out.sl.shape
    subst hzv
    clear hkl hka hm hget hx hbc hbv hLk
    go_wp2_with (at_builtin; refine wpList_append_sls rfl (.const (.slice none 0 0)) (.tmp 28) 29 rfl 5 k5 _ 1 1 Try.underlying29 ti tz0 tz1 tz2 rfl (by decide) rfl (Sl.nil _ _ _) rfl HBV.out (by intro u hu; obtain ⟨c, _, rfl⟩ := List.mem_map.1 hu; rfl) (by have := HLF.out; unfold maxLen; omega) (by have := HLF.out; omega) ?_)
    intro u wu hSu hgu hatu
    have HOU := Lib.hid (show Only [] wr wu from (Only.refl _ _).grown hgu fun k hk => by cases hk)
    have HSU := Lib.hid (show Sl wu 5 1 u (FD.b (fs f)).length (byV (FD.b (fs f))) by simpa using hSu)
    have HWU := Lib.hid (show ∀ g, u.ownBlock = some g → wr.heap.size ≤ g from fun g hg => by
      rcases hatu with e | e
      · rw [e] at hg; cases hg
      · rw [e] at hg
        injection hg with hg
        omega)
    obtain ⟨ua, uc, huv, _, _⟩ := hSu.shape
    subst huv
    have HSS := Lib.hid (HS.out.sl.only HOU.out (by simp))
    clear hSu hgu hatu HSN HDW hl y0 x xl y yl HBV HBW HFM
    go_wp2_with (at_builtin; refine wpList_append_sls rfl (.tmp 18) (.tmp 31) 69 rfl 112 j5 _ 2 40 Try.underlying69 si sz0 sz1 sz2 rfl (by decide) rfl (HSS.out.alloc _) rfl (sl_new (n := 1) (Blk.new _ _ _) (by simp) (by decide)) (by simp [Value.oneCell']) (by have := HKL.out; have := HML.out; have := HLK.out; unfold maxLen; omega) (by have := HKL.out; have := HML.out; have := HLK.out; omega) ?_)
    intro v4 w4 hS4 hg4 hat4
    have HS4 := Lib.hid (FLs.snoc HS.out HO.out.size (s := s) HOU.out HSU.out HWU.out (by simpa using hS4) hg4 (by simpa using hat4))
    have HT4 := Lib.hid (show told3 (L ++ [(s, Value.slice ua (FD.b (fs f)).length uc, FD.b (fs f))]) = shown FD.b fs (p.now.take (k + 1)) by rw [HTC.out, ← HT.out]; unfold told3; rw [List.map_append]; rfl)
    have HO4 := Lib.hid (show Only [] w2 w4 from Only.grown ((HO.out.trans HOU.out).alloc _) hg4 fun i hi => by
      exact .inr (HS.out.vown i hi))
    obtain ⟨va, vc, huv, _, _⟩ := hS4.shape
    subst huv
    clear hS4 hg4 hat4 HSS
    go_wp2
    go_roundw
    case measure => (try rw [e8]); exact HMS.out
    case rel => exact ⟨k + 1, _, by first | rfl | rw [e8], Lib.hid HKL.out, HS4, HT4, HO4⟩
set_option maxRecDepth 100000 in
set_option maxHeartbeats 3200000 in
theorem lasting_ok (h0 : DK w F d p fs ids) : Calls Try.prog 28 #[cp d] w fun e w' =>
    ∃ v, e = .returned v ∧ ∃ L, FLs w' w.heap.size v L ∧ told3 L = shown FD.lasts fs p.last ∧ Only [] w w' := by
  obtain ⟨⟨nb, lb, pv, fv, bv, lv, h⟩, hF⟩ := h0
  obtain ⟨j5, si, sz0, sz1, sz2⟩ := info_parts info_file
  obtain ⟨k5, ti, tz0, tz1, tz2⟩ := info_parts info5
  have H := Lib.hid h
  have HNM := Lib.hid (names_ok h.dm.last (h.ok.names0) (Nat.le_trans (h.ok.len.2) (by decide)))
  have HSR := Lib.hid (h.ok.slast)
  have HLV := Lib.hid (h.live.last)
  have HDM := Lib.hid (h.dm.last)
  have HBK := Lib.hid (h.dm.blk)
  have x := h.dm.blk.cell 4
  have xl := h.dm.blk.lt
  simp [dcells] at x
  obtain ⟨M, hM⟩ : ∃ M, p.last.length = M := ⟨_, rfl⟩
  have HM := Lib.hid hM
  have HML := Lib.hid (show M ≤ 256 from hM ▸ h.ok.len.2)
  rw [hM] at HNM
  clear h hF hM
  go_enter Try.func28, Try.ntmps28
  go_wp2_with fail
  refine HNM.out.mono ?_
  rintro e w2 ⟨nv, rfl, hs2, ho2, hw2⟩
  obtain ⟨na, nc, hnv, _, _⟩ := hs2.shape
  subst hnv
  have HS2 := Lib.hid hs2
  have HO2 := Lib.hid ho2
  clear HNM hs2 ho2 hw2 x xl
  go_wp2
  go_loopw [3, 14] (fun z3 z14 wr => ∃ (k : Nat) (L : List Fl3), z14 = .int .i64 k ∧ Hid (k ≤ M) ∧ Hid (FLs wr w2.heap.size z3 L) ∧ Hid (told3 L = shown FD.lasts fs (p.last.take k)) ∧ Hid (Only [] w2 wr)) (fun _ z14 _ => M - (intOf z14).toNat)
  case atStart => exact ⟨0, [], rfl, Lib.hid (Nat.zero_le _), Lib.hid (FLs.nil _ _), Lib.hid rfl, Lib.hid (Only.refl _ _)⟩
  case round =>
    obtain ⟨k, L, rfl, HK, HS, HT, HO⟩ := hrel
    by_cases hkl : k < M
    case neg =>
      have hkz : ¬ (k : Int) < (M : Int) := nlt_z hkl
      have HE := Lib.hid (Nat.le_antisymm HK.out (Nat.le_of_not_lt hkl))
      clear hkl
      go_wp2
      refine bodyPost_ret (results_tmp rfl _ _ _) rfl ⟨_, rfl, L, FLs.mono (by exact HS.out) HO2.out.size, ?_, HO2.out.trans HO.out⟩
      have h1 := HT.out
      rw [HE.out, ← HM.out, List.take_length] at h1
      exact h1
    have hkz : (k : Int) < (M : Int) := lt_z hkl
    have hka : k < p.last.length := by rw [HM.out]; exact hkl
    have hLk : L.length = k := by
      have h1 := congrArg List.length HT.out
      unfold told3 shown at h1
      rw [List.length_map, List.length_map, List.length_take] at h1
      omega
    have HLK := Lib.hid hLk
    have HSN := Lib.hid (HS2.out.only HO.out (by simp))
    obtain ⟨g, o, c', hv, hfm⟩ := HSN.out.form (by omega)
    injection hv with hva hvl hvc
    subst hva
    subst hvc
    clear hvl hfm
    have y0 := HSN.out.cells_ k (sk (p.last[k]).1) (by simp [hka])
    rw [Addr.add_lit] at y0
    have hm := List.getElem_mem hka
    have hget : p.last.get (p.last[k]).1 = some (p.last[k]).2 := Dir.get_some HSR.out.nod (by exact hm)
    have HID2 := Lib.hid (HLV.out _ hm)
    have HTC := Lib.hid (shown_snoc (sel := FD.lasts) (fs := fs) hka)
    obtain ⟨⟨s, f⟩, hx⟩ : ∃ x, p.last[k] = x := ⟨_, rfl⟩
    rw [hx] at y0 hget HID2 HTC
    dsimp only at y0 hget HID2 HTC
    have HOW := Lib.hid (HO2.out.trans HO.out)
    have HDW := Lib.hid (HDM.out.only HOW.out (by simp))
    have hl := DMap.lookup (P := Try.prog) HDW.out Try.underlying56 Try.underlying9 zero79 s
    rw [hget] at hl
    unfold optP at hl
    have HFM := Lib.hid (FM.only0 (H.out.fs.file f HID2.out) HOW.out)
    have HLF := Lib.hid (show (FD.lasts (fs f)).length ≤ 1073741824 by have := HFM.out.ok.1; have := HFM.out.ok.2.2; omega)
    have HBW := Lib.hid (HBK.out.only HOW.out (by simp))
    have x := HBW.out.cell 4
    have xl := HBW.out.lt
    simp [dcells] at x
    have y := HFM.out.blk.cell 1
    have yl := HFM.out.blk.lt
    simp at y
    have HBV := Lib.hid (HFM.out.l)
    obtain ⟨ba, bc, hbv, hbc, _⟩ := HFM.out.l.shape
    rw [hbv] at y HBV
    have e8 := wrap_sm (by have := HML.out; omega) hkl
    have HMS := Lib.hid (meas hkl)
    have HKL := Lib.hid hkl
    obtain ⟨za, zc, hzv, _, _⟩ := HS.out.sl.shape
    subst hzv
    clear hkl hka hm hget hx hbc hbv hLk
    go_wp2_with (at_builtin; refine wpList_append_sls rfl (.const (.slice none 0 0)) (.tmp 28) 29 rfl 5 k5 _ 1 1 Try.underlying29 ti tz0 tz1 tz2 rfl (by decide) rfl (Sl.nil _ _ _) rfl HBV.out (by intro u hu; obtain ⟨c, _, rfl⟩ := List.mem_map.1 hu; rfl) (by have := HLF.out; unfold maxLen; omega) (by have := HLF.out; omega) ?_)
    intro u wu hSu hgu hatu
    have HOU := Lib.hid (show Only [] wr wu from (Only.refl _ _).grown hgu fun k hk => by cases hk)
    have HSU := Lib.hid (show Sl wu 5 1 u (FD.lasts (fs f)).length (byV (FD.lasts (fs f))) by simpa using hSu)
    have HWU := Lib.hid (show ∀ g, u.ownBlock = some g → wr.heap.size ≤ g from fun g hg => by
      rcases hatu with e | e
      · rw [e] at hg; cases hg
      · rw [e] at hg
        injection hg with hg
        omega)
    obtain ⟨ua, uc, huv, _, _⟩ := hSu.shape
    subst huv
    have HSS := Lib.hid (HS.out.sl.only HOU.out (by simp))
    clear hSu hgu hatu HSN HDW hl y0 x xl y yl HBV HBW HFM
    go_wp2_with (at_builtin; refine wpList_append_sls rfl (.tmp 18) (.tmp 31) 69 rfl 112 j5 _ 2 40 Try.underlying69 si sz0 sz1 sz2 rfl (by decide) rfl (HSS.out.alloc _) rfl (sl_new (n := 1) (Blk.new _ _ _) (by simp) (by decide)) (by simp [Value.oneCell']) (by have := HKL.out; have := HML.out; have := HLK.out; unfold maxLen; omega) (by have := HKL.out; have := HML.out; have := HLK.out; omega) ?_)
    intro v4 w4 hS4 hg4 hat4
    have HS4 := Lib.hid (FLs.snoc HS.out HO.out.size (s := s) HOU.out HSU.out HWU.out (by simpa using hS4) hg4 (by simpa using hat4))
    have HT4 := Lib.hid (show told3 (L ++ [(s, Value.slice ua (FD.lasts (fs f)).length uc, FD.lasts (fs f))]) = shown FD.lasts fs (p.last.take (k + 1)) by rw [HTC.out, ← HT.out]; unfold told3; rw [List.map_append]; rfl)
    have HO4 := Lib.hid (show Only [] w2 w4 from Only.grown ((HO.out.trans HOU.out).alloc _) hg4 fun i hi => by
      exact .inr (HS.out.vown i hi))
    obtain ⟨va, vc, huv, _, _⟩ := hS4.shape
    subst huv
    clear hS4 hg4 hat4 HSS
    go_wp2
    go_roundw
    case measure => (try rw [e8]); exact HMS.out
    case rel => exact ⟨k + 1, _, by first | rfl | rw [e8], Lib.hid HKL.out, HS4, HT4, HO4⟩
end
end Go.Proofs.Ythekilgolelomaa
