/-
  The disk: a directory's copy, a change's copy.
-/
import Derived.Test.YthekilgolelomaaKd
set_option linter.unusedSimpArgs false
set_option linter.unusedVariables false
namespace Go.Proofs.Ythekilgolelomaa
open Go.RowKit Go.Fl

def sg (m : List (Nat × Nat)) (x : Nat) : Nat := (pGet m x).getD 0
section
variable {w w' w1 w2 : World} {base mb : Nat} {m m1 m2 m' : List (Nat × Nat)} {fs : Nat → FD} {S T : Nat → Prop}
theorem TO.refl (h : TX w base mb m fs) : TO w w base mb m m fs S := ⟨h, fun _ _ h => h, fun _ h => .inl h, Only.refl _ _⟩
theorem TO.trans (h : TO w w1 base mb m m1 fs S) (k : TO w1 w2 base mb m1 m2 fs T) (hT : ∀ i, T i → S i) : TO w w2 base mb m m2 fs S :=
  ⟨k.tx, fun z u hu => k.old z u (h.old z u hu), fun p hp => (k.new p hp).elim (fun hp => h.new p hp) fun hp => .inr (hT _ hp), h.only.trans k.only⟩
theorem TO.then0 (h : TO w w1 base mb m m1 fs S) (ho : Only [] w1 w2) : TO w w2 base mb m m1 fs S := ⟨h.tx.only0 ho, h.old, h.new, h.only.trans (ho.mono (by simp))⟩
theorem sg_old (h : ∀ z u, pGet m z = some u → pGet m' z = some u) {x : Nat} (hx : (pGet m x).isSome = true) : (pGet m' x).isSome = true ∧ sg m' x = sg m x := by
  obtain ⟨u, hu⟩ := Option.isSome_iff_exists.1 hx
  unfold sg
  rw [h x u hu, hu]
  exact ⟨rfl, rfl⟩
theorem lies_mb {x : Nat} (h : Lies w x) (hmb : PMap w mb m) (ho : Only [mb] w w') : Lies w' x := h.only ho (by
  obtain ⟨t, cs, hc⟩ := h
  simpa using (hmb.not_cells hc).symm)
theorem fm_mb {x : Nat} {f : FD} {b l : Value} (h : FM w x f b l) (hmb : PMap w mb m) (ho : Only [mb] w w') : FM w' x f b l := FM.far h ho fun k hk t cs hc => by
  rw [List.mem_singleton.1 hk] at hc
  exact hmb.not_cells hc rfl
theorem TO.off {k : Nat} (h : TO w w1 base mb m m1 fs S) (ho : Only [k] w1 w2) (hk : ∀ t cs, Blk w1 k t cs → t ≠ 87 ∧ t ≠ 5) (hne : k ≠ mb) (hf : w.heap.size ≤ k) : TO w w2 base mb m m1 fs S :=
  ⟨h.tx.far ho fun i hi => by rw [List.mem_singleton.1 hi]; exact ⟨hk, hne⟩, h.old, h.new, h.only.trans' ho fun i hi => .inr (by rw [List.mem_singleton.1 hi]; exact hf)⟩
theorem ren_step {D : Dir} {s : Nm} {f y : Nat} (hold : ∀ z u, pGet m1 z = some u → pGet m2 z = some u) (hD : ∀ x ∈ D, (pGet m1 x.2).isSome = true) (hy : pGet m2 f = some y) :
    (dren (sg m1) D).put s y = dren (sg m2) (D.put s f) ∧ ∀ x ∈ D.put s f, (pGet m2 x.2).isSome = true := by
  refine ⟨?_, fun x hx => ?_⟩
  · rw [dren_put]
    have h1 : sg m2 f = y := by unfold sg; rw [hy]; rfl
    rw [h1, dren_congr (σ := sg m2) (τ := sg m1) fun x hx => (sg_old hold (hD x hx)).2]
  · rcases Dir.mem_put.1 hx with rfl | hx
    · rw [hy]; rfl
    · exact (sg_old hold (hD x hx.1)).1
theorem iter_not_cells {it nb g t : Nat} {A : Dir} {l : List (Nm × Nat)} (h : RIter w it nb A l) {cs : Array Value} (hg : Blk w it t cs) : False := by
  obtain ⟨es, clock, m, seen, h1, h2, h3, h4, h5, h6⟩ := h
  unfold Blk at hg
  rw [h5] at hg
  cases hg
set_option maxRecDepth 100000 in
set_option maxHeartbeats 3200000 in
theorem dcopy_ok {nb : Nat} {A : Dir} (hd : DMap w nb A) (h : TX w base mb m fs) (hb : base ≤ w.heap.size) (hm : ∀ p ∈ m, Lies w p.1) (hf : ∀ x ∈ A, ∃ b l, FM w x.2 (fs x.2) b l) (hne : nb ≠ mb) :
    Calls Try.prog 46 #[.map (some nb), .map (some mb)] w fun e w' =>
    ∃ b, e = .returned (.map (some b)) ∧ ∃ m', TO w w' base mb m m' fs (fun i => ∃ x ∈ A, x.2 = i) ∧ DMap w' b (dren (sg m') A) ∧ (∀ x ∈ A, (pGet m' x.2).isSome = true) ∧ w.heap.size ≤ b := by
  have H := Lib.hid h
  have HB := Lib.hid hb
  have HM := Lib.hid hm
  have HF := Lib.hid hf
  have HP := Lib.hid h.map_
  have HNE := Lib.hid hne
  have hmk : ∀ w, (Instr.makeMap 56 none).run Try.prog w = .ok (.map (some w.heap.size)) (w.alloc (.map #[] 0)) := fun _ => rfl
  have HOA := Lib.hid ((Only.refl [] w).alloc (.map #[] 0))
  have HLA := Lib.hid (hd.only HOA.out (by simp))
  have HDA := Lib.hid (DMap.new w)
  have HSR := Lib.hid hd.2
  have hnl := hd.lt
  clear h hb hm hf hd hne
  go_enter Try.func46, Try.ntmps46
  go_wp2_with (refine wpList_drange rfl (.tmp 9) 56 rfl 9 78 Try.underlying56 rfl HLA.out ?_)
  intro w1 hr1 ho1 hz1
  have HR1 := Lib.hid hr1
  have HO1 := Lib.hid (HOA.out.trans ho1)
  have HD1 := Lib.hid (HDA.out.only ho1 (by simp))
  obtain ⟨ob, hob⟩ : ∃ ob, w.heap.size = ob := ⟨_, rfl⟩
  have HOB := Lib.hid hob
  rw [hob] at HR1 HD1 ⊢
  obtain ⟨it, hit⟩ : ∃ it, ob + 1 = it := ⟨_, rfl⟩
  have HIT := Lib.hid (show ob + 1 = it ∧ mb < ob ∧ nb < ob from ⟨hit, by rw [← hob]; exact HP.out.lt, by rw [← hob]; exact hnl⟩)
  rw [hit] at HR1 ⊢
  clear hr1 ho1 hz1 hob hit HDA HLA hmk hnl
  go_wp2
  go_loopw [] (fun wr => ∃ l D m1, Hid (RIter wr it nb A l) ∧ Hid (DMap wr ob (dren (sg m1) D)) ∧ Hid ((D ++ l).Perm A) ∧ Hid (TO w wr base mb m m1 fs (fun i => ∃ x ∈ A, x.2 = i)) ∧ Hid ((∀ x ∈ D, (pGet m1 x.2).isSome = true) ∧ Dir.Srt D)) (fun wr => itLeft wr it)
  case atStart => exact ⟨A, [], m, HR1, HD1, Lib.hid (List.Perm.refl _), Lib.hid ((TO.refl H.out).then0 HO1.out), Lib.hid ⟨by simp, List.Pairwise.nil⟩⟩
  case round =>
    obtain ⟨l, D, m1, HR, HD, HPM, HT, HS⟩ := hrel
    go_wp2_with (refine wpList_dnext rfl (.tmp 10) rfl rfl HR.out ?_ ?_)
    · intro hl
      subst hl
      have HE := Lib.hid (show D = A from srt_perm HS.out.2 HSR.out (by simpa using HPM.out))
      have HDL := Lib.hid (show DMap wr ob (dren (sg m1) A) from HE.out ▸ HD.out)
      have HSL := Lib.hid (show ∀ x ∈ A, (pGet m1 x.2).isSome = true from HE.out ▸ HS.out.1)
      clear HD HR HPM HS
      go_wp2
      exact bodyPost_ret (results_tmp rfl _ _ _) rfl ⟨_, rfl, m1, HT.out, HDL.out, HSL.out, Nat.le_of_eq HOB.out⟩
    · intro s f l' w2 hp hr2 ho2 hz he
      have HP2 := Lib.hid (put_all HR.out.dmap.2 HPM.out hp)
      have HMA := Lib.hid (show (s, f) ∈ A from HPM.out.mem_iff.1 (List.mem_append_right _ (hp.mem_iff.2 (by simp))))
      have HR2 := Lib.hid hr2
      have HNU := Lib.hid (show it ≠ mb ∧ ob ≠ mb ∧ ob ≠ it ∧ nb ≠ ob ∧ w.heap.size ≤ it ∧ w.heap.size ≤ ob from by
        have h1 := HOB.out
        obtain ⟨h2, h3, h4⟩ := HIT.out
        omega)
      have HT2 := Lib.hid (TO.off HT.out ho2 (fun t cs hc => (iter_not_cells (g := 0) HR.out hc).elim) HNU.out.1 HNU.out.2.2.2.2.1)
      have HD2 := Lib.hid (HD.out.only ho2 (by simpa using HNU.out.2.2.1))
      have HME := Lib.hid (show l'.length < itLeft wr it by rw [it_left HR.out, hp.length_eq]; exact Nat.lt_succ_self _)
      have HKM := Lib.hid (show ∀ p ∈ m1, Lies w2 p.1 from fun p hp => lies_mb (w := w) (by
        rcases HT2.out.new p hp with hp | ⟨x, hx, e⟩
        · exact HM.out p hp
        · obtain ⟨b, l, hf⟩ := HF.out x hx
          rw [← e]
          exact ⟨_, _, hf.blk⟩) HP.out HT2.out.only)
      obtain ⟨fb, fl, hfm⟩ := HF.out _ HMA.out
      have HTW := Lib.hid (twin_ok HT2.out.tx (Nat.le_trans HB.out HT2.out.only.size) HKM.out (fm_mb hfm HP.out HT2.out.only))
      clear hp hr2 ho2 hz HPM HD HR HT hfm
      go_wp2_with fail
      refine HTW.out.mono ?_
      rintro e w3 ⟨y, rfl, m2, ht, hy⟩
      have HR3 := Lib.hid (HR2.out.only ht.only (by simpa using HNE.out) (by simpa using HNU.out.1))
      have HD3 := Lib.hid (HD2.out.only ht.only (by simpa using HNU.out.2.1))
      have HT3 := Lib.hid (HT2.out.trans ht fun i e => ⟨_, HMA.out, e.symm⟩)
      have HRS := Lib.hid (ren_step (s := s) ht.old HS.out.1 hy)
      clear ht hy HTW HT2 HD2 HR2 HKM he
      go_wp2_with (at_mapUpdate; refine wpList_dput rfl (.tmp 16) (.tmp 17) (.tmp 20) 56 rfl 9 78 Try.underlying56 Try.underlying9 rfl HD3.out rfl rfl ?_)
      intro w4 hm4 ho4 hz4
      have HD4 := Lib.hid (show DMap w4 ob (dren (sg m2) (D.put s f)) from HRS.out.1 ▸ hm4)
      have HR4 := Lib.hid (HR3.out.only ho4 (by simpa using HNU.out.2.2.2.1) (by simpa using fun e => HNU.out.2.2.1 e.symm))
      have HT4 := Lib.hid (TO.off HT3.out ho4 (fun t cs hc => (HD3.out.not_cells hc rfl).elim) HNU.out.2.1 HNU.out.2.2.2.2.2)
      have HME4 := Lib.hid (show itLeft w4 it < itLeft wr it by
        rw [it_left HR4.out]
        exact HME.out)
      have HS4 := Lib.hid (show (∀ x ∈ D.put s f, (pGet m2 x.2).isSome = true) ∧ Dir.Srt (D.put s f) from ⟨HRS.out.2, HS.out.2.put s f⟩)
      clear hm4 ho4 hz4 HD3 HR3 HT3
      go_wp2
      go_roundw
      case measure => exact HME4.out
      case rel => exact ⟨l', _, m2, HR4, HD4, HP2, HT4, HS4⟩
set_option maxRecDepth 100000 in
theorem copy_rm (s : Nm) (v : Value) : Calls Try.prog 101 #[.agg #[sk s], v] w fun e w' => e = .returned (chgV (.rm s)) ∧ Only [] w w' := by
  have hb := Blk.new w 95 #[sk s]
  have x0 := hb.cell 0
  have xl := hb.lt
  have HO := Lib.hid ((Only.refl [] w).alloc (.cells #[sk s] 95))
  simp at x0
  clear hb
  go_enter Try.func101, Try.ntmps101
  go_wp2
  exact bodyPost_ret (results_tmp rfl _ _ _) rfl ⟨rfl, HO.out⟩
set_option maxRecDepth 100000 in
theorem copy_rn (a b : Nm) (v : Value) : Calls Try.prog 99 #[.agg #[sk a, sk b], v] w fun e w' => e = .returned (chgV (.rn a b)) ∧ Only [] w w' := by
  have hb := Blk.new w 93 #[sk a, sk b]
  have x0 := hb.cell 0
  have x1 := hb.cell 1
  have xl := hb.lt
  have HO := Lib.hid ((Only.refl [] w).alloc (.cells #[sk a, sk b] 93))
  simp at x0 x1
  clear hb
  go_enter Try.func99, Try.ntmps99
  go_wp2
  exact bodyPost_ret (results_tmp rfl _ _ _) rfl ⟨rfl, HO.out⟩
set_option maxRecDepth 100000 in
set_option maxHeartbeats 1600000 in
theorem copy_cr (h : TX w base mb m fs) (hb : base ≤ w.heap.size) (hm : ∀ p ∈ m, Lies w p.1) (s : Nm) {f : Nat} {b l : Value} (hf : FM w f (fs f) b l) : Calls Try.prog 97 #[.agg #[sk s, fp f], .map (some mb)] w fun e w' =>
    ∃ y, e = .returned (chgV (.cr s y)) ∧ ∃ m', TO w w' base mb m m' fs (· = f) ∧ pGet m' f = some y := by
  have hk := Blk.new w 89 #[sk s, fp f]
  obtain ⟨kb, hkb⟩ : ∃ kb, w.heap.size = kb := ⟨_, rfl⟩
  have HBK := Lib.hid hk
  have ho : Only [] w (w.alloc (.cells #[sk s, fp f] 89)) := (Only.refl [] w).alloc _
  obtain ⟨w0, hw0⟩ : ∃ w0, w.alloc (.cells #[sk s, fp f] 89) = w0 := ⟨_, rfl⟩
  rw [hw0] at HBK ho
  rw [hkb] at HBK
  have HO := Lib.hid ho
  have HP0 := Lib.hid (h.map_.only ho (by simp))
  have HKB := Lib.hid (show ∀ wx, Only [mb] w0 wx → wx.cell? ⟨kb, 0, none⟩ = some (sk s) ∧ wx.cell? ⟨kb, 1, none⟩ = some (fp f) from fun wx hx => by
    have hb2 := HBK.out.only hx (by simpa using (HP0.out.not_cells HBK.out).symm)
    exact ⟨hb2.cell 0, hb2.cell 1⟩)
  have HK0 := HKB.out w0 (Only.refl _ _)
  have xl := HBK.out.lt
  have HTW := Lib.hid (fun wx (hx : Only [] w0 wx) => twin_ok (base := base) ((h.only0 ho).only0 hx) (Nat.le_trans hb (ho.trans hx).size) (fun p hp => (hm p hp).only (ho.trans hx) (by simp)) (FM.only0 hf (ho.trans hx)))
  have HT0 := Lib.hid (show TO w w0 base mb m m fs (· = f) from (TO.refl h).then0 ho)
  clear h hb hm hf hk ho
  go_enter Try.func97, Try.ntmps97
  go_upto_region 1 with fail
  (try rw [hw0])
  (try rw [hkb])
  go_region_held3 (fun w' => w'.cell? ⟨kb, 0, none⟩ = some (sk s) ∧ w'.cell? ⟨kb, 1, none⟩ = some (fp f)) (first | exact HK0 | exact HK1 | go_keep) (first
    | (go_at_call 54; refine (HTW.out _ (by first | exact Only.refl _ _ | exact (Only.refl _ _).drew | exact (Only.refl _ _).drewN _)).mono ?_
       rintro e w1 ⟨y, rfl, m', ht, hy⟩
       have HT1 : Hid (TO w w1 base mb m m' fs (· = f)) := Lib.hid (TO.trans (HT0.out.then0 (by first | exact Only.refl _ _ | exact (Only.refl _ _).drew)) ht fun _ e => e)
       have HY1 := Lib.hid hy
       have HK1 := HKB.out w1 (by first | exact ht.only | exact ((Only.refl [] w0).drew.mono (by simp)).trans ht.only)
       clear ht hy))
  go_wp2
  exact bodyPost_ret (results_tmp rfl _ _ _) rfl ⟨y, rfl, m', HT1.out, HY1.out⟩
/-- Which method a change's 'copy' is. -/
def chgG : Chg → Nat
  | .cr _ _ => 97
  | .rm _ => 101
  | .rn _ _ => 99
theorem copy_any (h : TX w base mb m fs) (hb : base ≤ w.heap.size) (hm : ∀ p ∈ m, Lies w p.1) (c : Chg) (hf : ∀ i ∈ c.ids, ∃ b l, FM w i (fs i) b l) : Calls Try.prog (chgG c) #[chgA c, .map (some mb)] w fun e w' =>
    ∃ c', e = .returned (chgV c') ∧ ∃ m', TO w w' base mb m m' fs (· ∈ c.ids) ∧ c' = c.ren (sg m') ∧ ∀ i ∈ c.ids, (pGet m' i).isSome = true := by
  cases c with
  | cr s f =>
    obtain ⟨b, l, hf⟩ := hf f (by simp [Chg.ids])
    refine (copy_cr h hb hm s hf).mono ?_
    rintro e w' ⟨y, rfl, m', ht, hy⟩
    refine ⟨_, rfl, m', ⟨ht.tx, ht.old, fun p hp => (ht.new p hp).imp (fun h => h) fun e => by simp [Chg.ids, e], ht.only⟩, ?_, fun i hi => ?_⟩
    · show Chg.cr s y = Chg.cr s ((pGet m' f).getD 0)
      rw [hy]
      rfl
    · simp [Chg.ids] at hi
      rw [hi, hy]
      rfl
  | rm s =>
    refine (copy_rm s _).mono ?_
    rintro e w' ⟨rfl, ho⟩
    exact ⟨_, rfl, m, (TO.refl h).then0 ho, rfl, fun i hi => by simp [Chg.ids] at hi⟩
  | rn a b =>
    refine (copy_rn a b _).mono ?_
    rintro e w' ⟨rfl, ho⟩
    exact ⟨_, rfl, m, (TO.refl h).then0 ho, rfl, fun i hi => by simp [Chg.ids] at hi⟩
theorem m_copy (c : Chg) (w : World) : (method 281 (chgT c) (chgA c) "flume/disk.copy").run Try.prog w = .ok (chgG c, chgA c) w := by cases c <;> kernel_rfl
theorem c_copy (c : Chg) (args : Array Value) (w : World) : (callFunc (chgG c) args).run Try.prog w = .ok (.enter (chgG c) args) w := by cases c <;> kernel_rfl
theorem na_copy (c : Chg) (w : World) : (nilAhead 281 (chgT c) (chgA c) "flume/disk.copy").run Try.prog w = .ok (some false) w := by cases c <;> kernel_rfl
end
end Go.Proofs.Ythekilgolelomaa
