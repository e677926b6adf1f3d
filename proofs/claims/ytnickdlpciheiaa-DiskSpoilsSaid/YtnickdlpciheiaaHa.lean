/-
  DiskSpoils: the law in plain words, and its walk.
-/
import Derived.Test.YtnickdlpciheiaaYa
import Derived.Test.YtnickdlpciheiaaZa
set_option linter.unusedSimpArgs false
set_option linter.unusedVariables false
namespace Go.Proofs.Ytnickdlpciheiaa
open Go.RowKit Go.Fl

theorem sync_flat {l : List UInt8} : (FD.mk l [] 0).sync = FD.flat l := by
  unfold FD.sync FD.flat FD.kept FD.bad FD.tail
  simp
/-- What a Sync makes last behind one that failed. -/
theorem sp_sync (a b c : List UInt8) : (FD.mk ((a ++ b) ++ c) a (a ++ b).length).sync = ⟨(a ++ b) ++ c, a ++ (List.replicate b.length 0 ++ c), 0⟩ := by
  have ht : (FD.mk ((a ++ b) ++ c) a (a ++ b).length).tail = b ++ c := by
    unfold FD.tail
    show ((a ++ b) ++ c).drop a.length = b ++ c
    rw [List.append_assoc, List.drop_left]
  have hb : (FD.mk ((a ++ b) ++ c) a (a ++ b).length).bad (b ++ c).length = b.length := by
    unfold FD.bad
    show min (b ++ c).length ((a ++ b).length - a.length) = b.length
    simp
  unfold FD.sync FD.kept
  rw [ht, hb, List.take_length, List.drop_left]
theorem sp_left {B L : List UInt8} (h : L.length = B.length) : (FD.mk B L 0).left 0 [] = L := by
  have h1 : (FD.mk B L 0).cutN 0 = 0 := by unfold FD.cutN; simp; omega
  have h2 : (FD.mk B L 0).junk 0 [] = 0 := by unfold FD.junk; simp
  unfold FD.left
  rw [h1, h2]
  unfold FD.kept FD.bad
  simp
/-- A disk with one fault, which struck, or will. -/
structure CQ (p : PD) (m : Int) (now last : Dir) (pend : List Chg) (n : Int) : Prop where
  up : p.up = true
  most : p.most = m
  flt : p.faults = [(1, 1, 0)]
  since : p.since = n
  now : p.now = now
  last : p.last = last
  pend : p.pend = pend
section
variable {p : PD} {fs : Nat → FD} {m n : Int} {now last : Dir} {pend : List Chg} {s : Nm} {f : Nat}
theorem CQ.calm (h : CQ p m now last pend n) : p.calm := by
  intro x hx
  rw [h.flt] at hx
  rw [List.mem_singleton.1 hx]
  decide
theorem CQ.noflt (h : CQ p m now last pend n) (h1 : 1 ≤ n) (h2 : n ≤ 100) (k : OpK) : (p.op k).flt = (0, 0, 0) := by
  unfold PD.flt
  show (p.faults.find? fun x => x.1 == wrap64 (p.since + 1)).getD _ = _
  rw [h.flt, h.since, wrap_d (by omega)]
  have h3 : ((1 : Int) == n + 1) = false := by simp; omega
  rw [List.find?_cons, h3]
  rfl
theorem CQ.find_some (h : CQ p m now last pend n) (hs : mayB s = true) (hf : now.get s = some f) : findR p s = (some f, 0) := by
  unfold findR
  rw [h.up, hs, h.now, hf]
  rfl
theorem CQ.op (h : CQ p m now last pend n) (h2 : 0 ≤ n ∧ n ≤ 100) (k : OpK) : CQ (p.op k) m now last pend (n + 1) := ⟨h.up, h.most, h.flt, by show wrap64 (p.since + 1) = n + 1; rw [h.since, wrap_d (by omega)], h.now, h.last, h.pend⟩
theorem CQ.append (h : CQ p m now last pend n) (h1 : 1 ≤ n) (h2 : n ≤ 100) (hs : mayB s = true) (hf : now.get s = some f) {data : List UInt8} (hr : (data.length : Int) ≤ m - lens fs now) :
    ∃ p', p.append fs s data = (((data.length : Int), 0), p', upd fs f { fs f with b := (fs f).b ++ data }) ∧ CQ p' m now last pend (n + 1) := by
  have e1 : p.fit fs data.length = data.length := by
    unfold PD.fit PD.room
    rw [h.noflt h1 h2, h.most, h.now]
    simp
    omega
  refine ⟨(((p.op .ap).byte data.length).bef (p.op .ap).flt), ?_, ?_⟩
  · unfold PD.append
    rw [h.find_some hs hf]
    dsimp only
    rw [e1]
    refine Prod.ext (Prod.ext rfl ?_) (Prod.ext rfl ?_)
    · show appR _ _ _ = 0
      rw [h.noflt h1 h2]
      unfold appR befR
      simp
    · show upd fs f _ = upd fs f _
      simp
  · rw [h.noflt h1 h2]
    have h3 := h.op ⟨by omega, h2⟩ .ap
    exact ⟨h3.up, h3.most, h3.flt, h3.since, h3.now, h3.last, h3.pend⟩
theorem CQ.sync (h : CQ p m now last pend n) (h1 : 1 ≤ n) (h2 : n ≤ 100) (hs : mayB s = true) (hf : now.get s = some f) : ∃ p', p.sync fs s = (0, p', upd fs f (fs f).sync) ∧ CQ p' m now last pend (n + 1) := by
  refine ⟨p.op .sy, ?_, h.op ⟨by omega, h2⟩ .sy⟩
  unfold PD.sync
  rw [h.find_some hs hf, h.noflt h1 h2]
  rfl
theorem CQ.fault (h : CQ p m now last pend 0) (hs : mayB s = true) (hf : now.get s = some f) : ∃ p', p.sync fs s = (20, p', upd fs f { fs f with marked := (fs f).b.length }) ∧ CQ p' m now last pend 1 := by
  have hfl : (p.op .sy).flt = (1, 1, 0) := by
    unfold PD.flt
    show (p.faults.find? fun x => x.1 == wrap64 (p.since + 1)).getD _ = _
    rw [h.flt, h.since, wrap_d (by omega)]
    rfl
  refine ⟨p.op .sy, ?_, h.op ⟨by omega, by omega⟩ .sy⟩
  unfold PD.sync
  rw [h.find_some hs hf, hfl]
  rfl
theorem CQ.read (h : CQ p m now last pend n) (hs : mayB s = true) (hf : now.get s = some f) {o k : Nat} (hb : o + k ≤ (fs f).b.length) : p.read fs s o k = (((fs f).b.drop o).take k, 0) := by
  unfold PD.read
  rw [h.find_some hs hf]
  dsimp only
  rw [if_neg (by omega)]
  simp
theorem CS.arm (h : CS p m now last pend) : ∃ p', p.arm [(1, 1, 0)] = (0, p') ∧ CQ p' m now last pend 0 := by
  refine ⟨{ p with faults := [(1, 1, 0)], since := 0 }, ?_, h.up, h.most, rfl, rfl, h.now, h.last, h.pend⟩
  unfold PD.arm
  rw [if_neg (by decide), if_pos (by decide)]
end
section
variable {w wr w' : World} {d : Nat} {m n : Int} {now last : Dir} {pend : List Chg} {fs : Nat → FD} {s : Nm} {f : Nat} {F : Nat → Prop} {p : PD} {ids : Nat → Prop}
/-- What is read, whole. -/
theorem sp_read (h1 : Own w wr F d p fs ids) (h2 : CQ p m now last pend n) (hs : mayB s = true) (hf : now.get s = some f) {B : List UInt8} (hb : (fs f).b = B) : Calls Try.prog 17 #[cp d, sk s, iv 0, iv B.length] wr fun e w' =>
    ∃ v, e = .returned (.tuple #[v, iv 0]) ∧ Sr w' 1 v B.length (byV B) ∧ Only [] wr w' := by
  have hr : p.read fs s 0 B.length = (B, 0) := by
    have := h2.read (fs := fs) hs hf (o := 0) (k := B.length) (by rw [hb]; omega)
    rw [hb, List.drop_zero, List.take_length] at this
    exact this
  refine (read_ok h1.dk s 0 B.length).mono ?_
  rw [hr]
  rintro e w' ⟨v, rfl, hs2, ho, _⟩
  exact ⟨v, rfl, hs2.sr, ho⟩
end
theorem list_len {x y z : List UInt8} (h : x ++ y = z) : x.length + y.length = z.length := by rw [← h, List.length_append]
set_option maxRecDepth 100000 in
set_option maxHeartbeats 6400000 in
theorem spoils_ok (w : World) {a b c : List UInt8} {va vb vc : Value} (ha : Sr w 1 va a.length (byV a)) (hb : Sr w 1 vb b.length (byV b)) (hc : Sr w 1 vc c.length (byV c)) :
    Calls Try.prog 4 #[va, vb, vc] w fun e w' => e = .returned (.bool true) ∧ Only [] w w' := by
  have HVA := Lib.hid ha
  have HVB := Lib.hid hb
  have HVC := Lib.hid hc
  obtain ⟨aa, ac, hav, _, _⟩ := ha.shape
  obtain ⟨ba, bc, hbv, _, _⟩ := hb.shape
  obtain ⟨ca, cc, hcv, _, _⟩ := hc.shape
  subst hav
  subst hbv
  subst hcv
  clear ha hb hc
  by_cases h1 : 5000 < a.length
  · have h1z : 5000 < (a.length : Int) := by omega
    go_enter Try.func4, Try.ntmps4
    go_wp2_with fail
    refine (begun_ok _).mono ?_
    rintro e w1 ⟨rfl, ho⟩
    have HO1 := Lib.hid ho
    clear ho
    go_wp2
    exact bodyPost_ret (results_tmp rfl _ _ _) rfl ⟨rfl, HO1.out⟩
  have h1z : ¬ 5000 < (a.length : Int) := by omega
  by_cases h2 : 5000 < b.length
  · have h2z : 5000 < (b.length : Int) := by omega
    go_enter Try.func4, Try.ntmps4
    go_wp2_with fail
    refine (begun_ok _).mono ?_
    rintro e w1 ⟨rfl, ho⟩
    have HO1 := Lib.hid ho
    clear ho
    go_wp2
    exact bodyPost_ret (results_tmp rfl _ _ _) rfl ⟨rfl, HO1.out⟩
  have h2z : ¬ 5000 < (b.length : Int) := by omega
  by_cases h3 : 5000 < c.length
  · have h3z : 5000 < (c.length : Int) := by omega
    go_enter Try.func4, Try.ntmps4
    go_wp2_with fail
    refine (begun_ok _).mono ?_
    rintro e w1 ⟨rfl, ho⟩
    have HO1 := Lib.hid ho
    clear ho
    go_wp2
    exact bodyPost_ret (results_tmp rfl _ _ _) rfl ⟨rfl, HO1.out⟩
  have h3z : ¬ 5000 < (c.length : Int) := by omega
  have HL := Lib.hid (show a.length ≤ 5000 ∧ b.length ≤ 5000 ∧ c.length ≤ 5000 from ⟨by omega, by omega, by omega⟩)
  clear h1 h2 h3
  go_enter Try.func4, Try.ntmps4
  go_wp2_with fail
  refine (begun_ok _).mono ?_
  rintro e w1 ⟨rfl, ho⟩
  have HO1 := Lib.hid ho
  clear ho
  replace HVA := Lib.hid (HVA.out.only0 HO1.out)
  replace HVB := Lib.hid (HVB.out.only0 HO1.out)
  replace HVC := Lib.hid (HVC.out.only0 HO1.out)
  go_wp2_with fail
  refine (oc_new w1 w1 (Only.refl _ _) 1048576 (by decide) (by decide)).mono ?_
  rintro e w2 ⟨d, rfl, hc⟩
  have H2 := Lib.hid hc
  clear hc
  go_wp2_with fail
  refine (oc_create H2.out (s := [102]) (by decide) rfl rfl (by decide)).mono ?_
  rintro e w3 ⟨rfl, f, hc, _, _⟩
  have H3 := Lib.hid (show OC w1 w3 d 1048576 [([102], f)] [] [.cr [102] f] (upd (fun _ => ⟨[], [], 0⟩) f ⟨[], [], 0⟩) from hc)
  have HF3 := Lib.hid (show (upd (fun _ => FD.mk [] [] 0) f ⟨[], [], 0⟩) f = ⟨[], [], 0⟩ from upd_at _ _ _)
  clear hc H2
  generalize (upd (fun _ => FD.mk [] [] 0) f ⟨[], [], 0⟩) = fs3 at H3 HF3
  go_wp2_with fail
  refine (oc_sdir H3.out (by simp)).mono ?_
  rintro e w4 ⟨rfl, hc⟩
  have H4 := Lib.hid hc
  clear hc H3
  go_wp2_with fail
  refine (oc_append H4.out (s := [102]) (f := f) rfl rfl HVA.out (by have := HL.out; omega) (by unfold lens; simp [HF3.out]; have := HL.out; omega)).mono ?_
  rintro e w5 ⟨rfl, hc⟩
  have H5 := Lib.hid hc
  rw [HF3.out] at H5
  dsimp only at H5
  have HF5 := Lib.hid (show (upd fs3 f (FD.mk ([] ++ a) [] 0)) f = ⟨a, [], 0⟩ from upd_at _ _ _)
  clear hc H4 HF3
  generalize (upd fs3 f (FD.mk ([] ++ a) [] 0)) = fs5 at H5 HF5
  go_wp2_with fail
  refine (oc_sync H5.out (s := [102]) (f := f) rfl rfl).mono ?_
  rintro e w6 ⟨rfl, hc⟩
  have H6 := Lib.hid hc
  have HF6 := Lib.hid (show (upd fs5 f (fs5 f).sync) f = ⟨a, a, 0⟩ from by rw [upd_at, HF5.out, sync_flat]; rfl)
  clear hc H5 HF5
  generalize (upd fs5 f (fs5 f).sync) = fs6 at H6 HF6
  go_wp2_with fail
  refine (oc_append H6.out (s := [102]) (f := f) rfl rfl HVB.out (by have := HL.out; omega) (by unfold lens; simp [HF6.out]; have := HL.out; omega)).mono ?_
  rintro e w7 ⟨rfl, hc⟩
  have H7 := Lib.hid hc
  rw [HF6.out] at H7
  dsimp only at H7
  have HF7 := Lib.hid (show (upd fs6 f (FD.mk (a ++ b) a 0)) f = ⟨a ++ b, a, 0⟩ from upd_at _ _ _)
  clear hc H6 HF6
  generalize (upd fs6 f (FD.mk (a ++ b) a 0)) = fs7 at H7 HF7
  obtain ⟨F7, p7, ids7, hown, hcs⟩ := H7.out
  obtain ⟨p8, he8, hcq⟩ := hcs.arm
  have HO7 := Lib.hid (show Own w1 (w7.alloc (.cells #[iv 1, iv 1, iv 0] 36)) F7 d p7 fs7 ids7 from hown.quiet ((Only.refl [] w7).alloc _))
  have HS7 := Lib.hid (show Sr (w7.alloc (.cells #[iv 1, iv 1, iv 0] 36)) 3 (.slice (some ⟨w7.heap.size, 0, none⟩) 1 1) ([((1 : Int), (1 : Int), (0 : Int))] : List Flt).length (fcs [(1, 1, 0)]) from (sl_new (n := 1) (size := 3) (Blk.new w7 36 #[iv 1, iv 1, iv 0]) rfl (by decide)).sr)
  have HN7 := Lib.hid (Off.fresh (v := .slice (some ⟨w7.heap.size, 0, none⟩) 1 1) (n := 1) hown.dk (fun g hg => by injection hg with hg; exact Nat.le_of_eq hg))
  clear hown hcs H7
  go_wp2_with fail
  refine (arm_ok HO7.out.dk HS7.out HN7.out).mono ?_
  rintro e w8 ⟨rfl, ha⟩
  rw [he8] at ha ⊢
  have H8 := Lib.hid (HO7.out.step ha)
  have HQ8 := Lib.hid hcq
  obtain ⟨p9, he9, hcq9⟩ := hcq.fault (fs := fs7) (s := [102]) (f := f) rfl rfl
  clear ha he8 hcq HO7 HS7 HN7
  generalize grow F7 (w7.alloc (.cells #[iv 1, iv 1, iv 0] 36)) w8 = F8 at H8
  go_wp2_with fail
  refine (syncD_ok H8.out.dk HQ8.out.calm [102]).mono ?_
  rintro e w9 ⟨rfl, ha⟩
  rw [he9] at ha ⊢
  have H9 := Lib.hid (H8.out.step ha)
  have HQ9 := Lib.hid hcq9
  rw [HF7.out] at H9
  dsimp only at H9
  have HF9 := Lib.hid (show (upd fs7 f (FD.mk (a ++ b) a (a ++ b).length)) f = ⟨a ++ b, a, (a ++ b).length⟩ from upd_at _ _ _)
  clear ha he9 hcq9 H8 HQ8 HF7
  generalize (upd fs7 f (FD.mk (a ++ b) a (a ++ b).length)) = fs9 at H9 HF9
  generalize grow F8 w8 w9 = F9 at H9
  obtain ⟨p10, he10, hcq10⟩ := HQ9.out.append (fs := fs9) (s := [102]) (f := f) (data := c) (by decide) (by decide) rfl rfl (by unfold lens; simp [HF9.out]; have := HL.out; omega)
  go_wp2_with fail
  refine (append_ok H9.out.dk HQ9.out.calm [102] (data := c) (HVC.out.only0 H9.out.only) (Go.Proofs.Ytnickdlpciheiaa.Sr.off0 HVC.out H9.out.own) (by have := HL.out; omega)).mono ?_
  rintro e w10 ⟨rfl, ha⟩
  rw [he10] at ha ⊢
  have H10 := Lib.hid (H9.out.step ha)
  have HQ10 := Lib.hid hcq10
  rw [HF9.out] at H10
  dsimp only at H10
  have HF10 := Lib.hid (show (upd fs9 f (FD.mk ((a ++ b) ++ c) a (a ++ b).length)) f = ⟨(a ++ b) ++ c, a, (a ++ b).length⟩ from upd_at _ _ _)
  clear ha he10 hcq10 H9 HQ9 HF9
  generalize (upd fs9 f (FD.mk ((a ++ b) ++ c) a (a ++ b).length)) = fs10 at H10 HF10
  generalize grow F9 w9 w10 = F10 at H10
  obtain ⟨j5, si, sz0, sz1, sz2⟩ := info_parts info5
  have HOB := Lib.hid H10.out.only
  have HOX := HOB
  have HLR := Lib.hid (show a.length + b.length ≤ 10000 ∧ ∀ z : List UInt8, z.length ≤ 10000 → z.length + c.length ≤ 15000 from ⟨by have := HL.out; omega, fun z hz => by have := HL.out; omega⟩)
  go_wp2_with (at_builtin; refine wpList_append_slr rfl (.const (.slice none 0 0)) (.tmp 55) 28 rfl 5 j5 _ 1 1 Try.underlying28 si sz0 sz1 sz2 rfl (by decide) rfl (Sl.nil _ _ _) rfl (HVA.out.only0 HOX.out) (by intro u hu; obtain ⟨c, _, rfl⟩ := List.mem_map.1 hu; rfl) (by have := HL.out; unfold maxLen; omega) (by have := HL.out; omega) ?_)
  intro v11 w11 hS11 hg11 hat11
  have HU := Lib.hid (show Only [] w10 w11 from Only.grown (Only.refl [] w10) hg11 fun k hk => by cases hk)
  have HWU := Lib.hid (show ∀ g, v11.ownBlock = some g → (w10).heap.size ≤ g from fun g hg => by
    rcases hat11 with e | e
    · rw [e] at hg; cases hg
    · rw [e] at hg
      injection hg with hg
      exact Nat.le_of_eq hg)
  have HSU := Lib.hid (show Sl w11 5 1 v11 (a).length (byV a) by simpa using hS11)
  obtain ⟨ua, uc, hu, _, _⟩ := HSU.out.shape
  subst hu
  replace HOX := Lib.hid (HOX.out.trans HU.out)
  clear hS11 hg11 hat11
  obtain ⟨ab, hR⟩ : ∃ z, a ++ b = z := ⟨_, rfl⟩
  have HRab := Lib.hid hR
  have hRl := list_len hR
  go_wp2_with (at_builtin; refine wpList_append_slr rfl (.tmp 56) (.tmp 57) 28 rfl 5 j5 _ 1 1 Try.underlying28 si sz0 sz1 sz2 rfl (by decide) rfl HSU.out rfl (HVB.out.only0 HOX.out) (by intro u hu; obtain ⟨c, _, rfl⟩ := List.mem_map.1 hu; rfl) (by have := HLR.out; unfold maxLen; omega) (by have := HLR.out; omega) ?_)
  (try rw [hRl])
  intro v12 w12 hS12 hg12 hat12
  rw [← byV_append, hR] at hS12
  have HU2 := Lib.hid (show Only [] w10 w12 from HU.out.grown hg12 fun k hk => .inr (HWU.out k (by simpa using hk)))
  have HWU2 := Lib.hid (show ∀ g, v12.ownBlock = some g → (w10).heap.size ≤ g from fun g hg => by
    rcases hat12 with e | e
    · rw [e] at hg; exact HWU.out g hg
    · rw [e] at hg
      injection hg with hg
      have := HU.out.size
      omega)
  have HSU2 := Lib.hid hS12
  replace HOX := Lib.hid (HOB.out.trans HU2.out)
  obtain ⟨ub, ud, hu2, _, _⟩ := hS12.shape
  subst hu2
  clear hS12 hg12 hat12 hR hRl HU HWU HSU
  have HU := HU2
  have HWU := HWU2
  have HSU := HSU2
  clear HU2 HWU2 HSU2
  have HLR := Lib.hid (show ab.length ≤ 10000 ∧ ab.length + c.length ≤ 15000 from by have := HL.out; have := list_len HRab.out; omega)
  obtain ⟨abc, hR⟩ : ∃ z, ab ++ c = z := ⟨_, rfl⟩
  have HRabc := Lib.hid hR
  have hRl := list_len hR
  go_wp2_with (at_builtin; refine wpList_append_slr rfl (.tmp 58) (.tmp 59) 28 rfl 5 j5 _ 1 1 Try.underlying28 si sz0 sz1 sz2 rfl (by decide) rfl HSU.out rfl (HVC.out.only0 HOX.out) (by intro u hu; obtain ⟨c, _, rfl⟩ := List.mem_map.1 hu; rfl) (by have := HLR.out; unfold maxLen; omega) (by have := HLR.out; omega) ?_)
  (try rw [hRl])
  intro v12 w13 hS12 hg12 hat12
  rw [← byV_append, hR] at hS12
  have HU2 := Lib.hid (show Only [] w10 w13 from HU.out.grown hg12 fun k hk => .inr (HWU.out k (by simpa using hk)))
  have HWU2 := Lib.hid (show ∀ g, v12.ownBlock = some g → (w10).heap.size ≤ g from fun g hg => by
    rcases hat12 with e | e
    · rw [e] at hg; exact HWU.out g hg
    · rw [e] at hg
      injection hg with hg
      have := HU.out.size
      omega)
  have HSU2 := Lib.hid hS12
  replace HOX := Lib.hid (HOB.out.trans HU2.out)
  obtain ⟨ub, ud, hu2, _, _⟩ := hS12.shape
  subst hu2
  clear hS12 hg12 hat12 hR hRl HU HWU HSU
  have HU := HU2
  have HWU := HWU2
  have HSU := HSU2
  clear HU2 HWU2 HSU2
  have HF13 := Lib.hid (show fs10 f = ⟨abc, a, ab.length⟩ from by rw [HF10.out, HRab.out, HRabc.out])
  have HB13 := Lib.hid (show (fs10 f).b = abc from by rw [HF13.out])
  have HLA := Lib.hid (show abc.length ≤ 15000 from by have := HLR.out; have := list_len HRabc.out; omega)
  go_wp2_with fail
  refine (sp_read (H10.out.quiet HU.out) HQ10.out (s := [102]) (f := f) rfl rfl HB13.out).mono ?_
  rintro e w14 ⟨v14, rfl, hs14, ho14⟩
  have HS14 := Lib.hid (HSU.out.only ho14 (by simp))
  have HO14 := Lib.hid (HU.out.trans ho14)
  have HEQ := Lib.hid (eqb_ok w14 hs14 HS14.out.sr (by have := HLA.out; omega))
  rw [show decide (abc = abc) = true from decide_eq_true rfl] at HEQ
  clear hs14 ho14 HOX
  go_wp2_with fail
  refine HEQ.out.mono ?_
  rintro e w15 ⟨rfl, ho15⟩
  have HS15 := Lib.hid (HS14.out.only ho15 (by simp))
  have H15 := Lib.hid (H10.out.quiet (HO14.out.trans ho15))
  obtain ⟨p16, he16, hcq16⟩ := HQ10.out.sync (fs := fs10) (s := [102]) (f := f) (by decide) (by decide) rfl rfl
  clear ho15 HEQ HS14 HO14
  go_wp2_with fail
  refine (syncD_ok H15.out.dk HQ10.out.calm [102]).mono ?_
  rintro e w16 ⟨rfl, ha⟩
  rw [he16] at ha ⊢
  have H16 := Lib.hid (H15.out.step ha)
  have HQ16 := Lib.hid hcq16
  have HS16 := Lib.hid (Go.Proofs.Ytnickdlpciheiaa.Sl.turn HS15.out ha.2 (fun g hg hF => by
    have h1 := H10.out.dk.2 g hF
    have h2 := HWU.out g hg
    omega))
  have HF16 := Lib.hid (show (upd fs10 f (fs10 f).sync) f = ⟨abc, a ++ (List.replicate b.length 0 ++ c), 0⟩ from by
    rw [upd_at, HF10.out, sp_sync, HRab.out, HRabc.out])
  clear ha he16 hcq16 H15 HS15 HF13 HB13 HF10
  generalize (upd fs10 f (fs10 f).sync) = fs16 at H16 HF16
  generalize grow F10 w15 w16 = F16 at H16
  have HB16 := Lib.hid (show (fs16 f).b = abc from by rw [HF16.out])
  go_wp2_with fail
  refine (sp_read H16.out HQ16.out (s := [102]) (f := f) rfl rfl HB16.out).mono ?_
  rintro e w17 ⟨v17, rfl, hs17, ho17⟩
  have HS17 := Lib.hid (HS16.out.only ho17 (by simp))
  have H17 := Lib.hid (H16.out.quiet ho17)
  have HEQ := Lib.hid (eqb_ok w17 hs17 HS17.out.sr (by have := HLA.out; omega))
  rw [show decide (abc = abc) = true from decide_eq_true rfl] at HEQ
  clear hs17 ho17 HS16 H16
  go_wp2_with fail
  refine HEQ.out.mono ?_
  rintro e w18 ⟨rfl, ho18⟩
  have H18 := Lib.hid (H17.out.quiet ho18)
  clear ho18 HEQ HS17 H17 HU HWU HSU
  go_wp2_with fail
  refine (crash_ok H18.out.dk (by rw [HQ16.out.pend]; decide) 0 (kj := []) ⟨Sr.nil _ _, fun x hx => by cases hx⟩ ⟨fun h => absurd h (Nat.lt_irrefl _), fun x hx => by cases hx⟩).mono ?_
  rintro e w19 ⟨rfl, D, fs', ids', ha, hview, _, _⟩
  obtain ⟨wt, hwt⟩ : ∃ z, a ++ (List.replicate b.length 0 ++ c) = z := ⟨_, rfl⟩
  have HWT := Lib.hid hwt
  rw [hwt] at HF16
  have hva : p16.after 0 = [([102], f)] := by
    unfold PD.after
    rw [HQ16.out.last, HQ16.out.pend]
    rfl
  have hlw : wt.length = abc.length := by
    have h1 := list_len HRab.out
    have h2 := list_len HRabc.out
    have h3 := congrArg List.length hwt
    simp at h3
    omega
  rw [hva, show crashV fs16 (kpat []) [([102], f)] = [([102], FD.flat ((fs16 f).left 0 []))] from rfl, HF16.out, sp_left hlw] at hview
  obtain ⟨g, rfl, hg⟩ := view_one hview
  have HG := Lib.hid (show (fs' g).b = wt from by rw [hg]; rfl)
  have H19 := Lib.hid (H18.out.step ha)
  have HLW := Lib.hid hlw
  have HCS := Lib.hid (show CS (p16.crash [([102], g)]) 1048576 [([102], g)] [([102], g)] [] from ⟨rfl, HQ16.out.most, rfl, rfl, rfl, rfl⟩)
  clear ha hview hg hva hlw hwt H18 HF16 HB16 HQ16
  generalize grow F16 w18 w19 = F19 at H19
  replace HOB := Lib.hid H19.out.only
  have HOX := HOB
  go_wp2_with (at_builtin; refine wpList_append_slr rfl (.const (.slice none 0 0)) (.tmp 91) 28 rfl 5 j5 _ 1 1 Try.underlying28 si sz0 sz1 sz2 rfl (by decide) rfl (Sl.nil _ _ _) rfl (HVA.out.only0 HOX.out) (by intro u hu; obtain ⟨c, _, rfl⟩ := List.mem_map.1 hu; rfl) (by have := HL.out; unfold maxLen; omega) (by have := HL.out; omega) ?_)
  intro v11 w20 hS11 hg11 hat11
  have HU := Lib.hid (show Only [] w19 w20 from Only.grown (Only.refl [] w19) hg11 fun k hk => by cases hk)
  have HWU := Lib.hid (show ∀ g, v11.ownBlock = some g → (w19).heap.size ≤ g from fun g hg => by
    rcases hat11 with e | e
    · rw [e] at hg; cases hg
    · rw [e] at hg
      injection hg with hg
      exact Nat.le_of_eq hg)
  have HSU := Lib.hid (show Sl w20 5 1 v11 (a).length (byV a) by simpa using hS11)
  obtain ⟨ua, uc, hu, _, _⟩ := HSU.out.shape
  subst hu
  replace HOX := Lib.hid (HOX.out.trans HU.out)
  clear hS11 hg11 hat11
  obtain ⟨az, haz⟩ : ∃ z, a ++ List.replicate b.length 0 = z := ⟨_, rfl⟩
  have HAZ := Lib.hid haz
  have hazl : a.length + b.length = az.length := by rw [← haz]; simp
  have HAL := Lib.hid hazl
  go_wp2_with (at_builtin; refine wpList_append_zsl rfl (.tmp 92) (.tmp 94) 28 3 rfl 5 j5 _ 1 Try.underlying28 Try.underlying3 si sz0 sz1 sz2 rfl rfl rfl HSU.out rfl (by have := HL.out; unfold maxLen; omega) (by have := HL.out; omega) ?_)
  (try rw [hazl])
  intro v12 w21 hS12 hg12 hat12
  have HSU2 := Lib.hid (show Sl w21 5 1 v12 az.length (byV az) from by
    have e : byV a ++ List.replicate b.length (Value.int .u8 0) = byV az := by rw [← haz]; unfold byV; simp
    rw [e] at hS12
    exact hS12)
  have HU2 := Lib.hid (show Only [] w19 w21 from HU.out.grown hg12 fun k hk => .inr (HWU.out k (by simpa using hk)))
  have HWU2 := Lib.hid (show ∀ g, v12.ownBlock = some g → w19.heap.size ≤ g from fun g hg => by
    rcases hat12 with e | e
    · rw [e] at hg; exact HWU.out g hg
    · rw [e] at hg
      injection hg with hg
      have := HU.out.size
      omega)
  replace HOX := Lib.hid (HOB.out.trans HU2.out)
  obtain ⟨ub, ud, hu2, _, _⟩ := hS12.shape
  subst hu2
  clear hS12 hg12 hat12 haz hazl HU HWU HSU
  have HU := HU2
  have HWU := HWU2
  have HSU := HSU2
  clear HU2 HWU2 HSU2
  replace HLR := Lib.hid (show az.length ≤ 10000 ∧ az.length + c.length ≤ 15000 from by have := HL.out; have := HAL.out; omega)
  obtain ⟨wz, hR⟩ : ∃ z, az ++ c = z := ⟨_, rfl⟩
  have HRwz := Lib.hid hR
  have hRl := list_len hR
  go_wp2_with (at_builtin; refine wpList_append_slr rfl (.tmp 95) (.tmp 96) 28 rfl 5 j5 _ 1 1 Try.underlying28 si sz0 sz1 sz2 rfl (by decide) rfl HSU.out rfl (HVC.out.only0 HOX.out) (by intro u hu; obtain ⟨c, _, rfl⟩ := List.mem_map.1 hu; rfl) (by have := HLR.out; unfold maxLen; omega) (by have := HLR.out; omega) ?_)
  (try rw [hRl])
  intro v12 w22 hS12 hg12 hat12
  rw [← byV_append, hR] at hS12
  have HU2 := Lib.hid (show Only [] w19 w22 from HU.out.grown hg12 fun k hk => .inr (HWU.out k (by simpa using hk)))
  have HWU2 := Lib.hid (show ∀ g, v12.ownBlock = some g → (w19).heap.size ≤ g from fun g hg => by
    rcases hat12 with e | e
    · rw [e] at hg; exact HWU.out g hg
    · rw [e] at hg
      injection hg with hg
      have := HU.out.size
      omega)
  have HSU2 := Lib.hid hS12
  replace HOX := Lib.hid (HOB.out.trans HU2.out)
  obtain ⟨ub, ud, hu2, _, _⟩ := hS12.shape
  subst hu2
  clear hS12 hg12 hat12 hR hRl HU HWU HSU
  have HU := HU2
  have HWU := HWU2
  have HSU := HSU2
  clear HU2 HWU2 HSU2
  have HWZ := Lib.hid (show wz = wt from by rw [← HRwz.out, ← HAZ.out, ← HWT.out, List.append_assoc])
  have HGZ := Lib.hid (show (fs' g).b = wz from by rw [HG.out, HWZ.out])
  have H22 := Lib.hid (H19.out.quiet HU.out)
  have HRD := Lib.hid (HCS.out.read (fs := fs') (s := [102]) (f := g) rfl rfl (o := 0) (n := wz.length) (by rw [HGZ.out]; omega))
  rw [HGZ.out, List.drop_zero, List.take_length] at HRD
  have HRO := Lib.hid (read_ok H22.out.dk [102] 0 wz.length)
  rw [show ((0 : Nat) : Int) = 0 from rfl] at HRD
  rw [HRD.out] at HRO
  go_wp2_with fail
  refine HRO.out.mono ?_
  rintro e w23 ⟨v23, rfl, hs23, ho23, _⟩
  have HS23 := Lib.hid (HSU.out.only ho23 (by simp))
  have HO23 := Lib.hid (H22.out.quiet ho23).only
  have HEQ := Lib.hid (eqb_ok w23 hs23.sr HS23.out.sr (by have := HLR.out; have := list_len HRwz.out; omega))
  rw [show decide (wz = wz) = true from decide_eq_true rfl] at HEQ
  clear hs23 ho23
  go_wp2_with fail
  refine HEQ.out.mono ?_
  rintro e w24 ⟨rfl, ho24⟩
  have HE := Lib.hid (HO1.out.trans (HO23.out.trans ho24))
  clear ho24
  go_wp2
  exact bodyPost_ret (results_tmp rfl _ _ _) rfl ⟨rfl, HE.out⟩
end Go.Proofs.Ytnickdlpciheiaa
