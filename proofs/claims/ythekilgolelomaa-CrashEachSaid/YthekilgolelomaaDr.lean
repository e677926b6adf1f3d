/-
  The disk: Sync; Read.
-/
import Derived.Test.YthekilgolelomaaDp
set_option linter.unusedSimpArgs false
set_option linter.unusedVariables false
namespace Go.Proofs.Ythekilgolelomaa
open Go.RowKit Go.Fl

def PD.sync (p : PD) (fs : Nat → FD) (s : Nm) : Int × PD × (Nat → FD) := match findR p s with
  | (none, e) => (e, p, fs)
  | (some f, _) => if (p.op .sy).flt.2.1 = 1 then (20, p.op .sy, upd fs f { fs f with marked := (fs f).b.length })
    else if (p.op .sy).flt.2.1 = 3 then (22, (p.op .sy).bef (p.op .sy).flt, fs)
    else (0, p.op .sy, upd fs f (fs f).sync)
section
variable {w w' : World} {F G : Nat → Prop} {d : Nat} {p p' : PD} {fs : Nat → FD} {ids : Nat → Prop} {nb lb : Nat} {pv fv pv' fv' : Value} {bv lv : Nat → Value}
theorem syncf_dk (h0 : DK w F d p fs ids) {f : Nat} (hi : ids f) : Calls Try.prog 35 #[fp f] w fun e w' => e = .returned (.tuple #[]) ∧ After w F d p (upd fs f (fs f).sync) ids w' := by
  obtain ⟨⟨nb, lb, pv, fv, bv, lv, h⟩, hF⟩ := h0
  refine (sync_ok (h.fs.file f hi) (fun g hg => h.fs.s1 f f g hi hi hg)).mono ?_
  rintro e w' ⟨rfl, l', hf, ho, hl⟩
  refine ⟨rfl, After.file h hF hi (b' := bv f) (l' := l') ho (fun k hk => ?_) hf (fun g hg => .inl hg) hl (fun g hg hl2 => ?_)⟩
  · rcases List.mem_cons.1 hk with e | e
    · exact .inl e
    · exact .inr (.inr (.inl (by simpa using e)))
  · rcases hl g hl2 with e | e
    · exact h.fs.s1 f f g hi hi hg e
    · have := (h.fs.file f hi).b.lt g hg
      omega
/-- A file whose bytes are all spoilt. -/
theorem mark_dk (h0 : DK w F d p fs ids) {f : Nat} (hi : ids f) : (∃ a c, w.cell? ⟨f, 0, none⟩ = some (.slice a (fs f).b.length c)) ∧ (∀ i, w.frozen? ⟨f, i, none⟩ = false) ∧ f < w.heap.size ∧ (∃ m, w.cell? ⟨f, 2, none⟩ = some (iv m)) ∧
    After w F d p (upd fs f { fs f with marked := (fs f).b.length }) ids (w.setCell ⟨f, 2, none⟩ (iv (fs f).b.length)) := by
  obtain ⟨⟨nb, lb, pv, fv, bv, lv, h⟩, hF⟩ := h0
  have hf := h.fs.file f hi
  have nb : ∀ g, (bv f).ownBlock = some g → g ≠ f := fun g hg e => by
    subst e
    obtain ⟨cur, hc⟩ := Go.Proofs.Ythekilgolelomaa.Sl.blk hf.b hg
    exact Blk.ne_ hc hf.blk (by decide) rfl
  have nl : ∀ g, (lv f).ownBlock = some g → g ≠ f := fun g hg e => by
    subst e
    obtain ⟨cur, hc⟩ := Go.Proofs.Ythekilgolelomaa.Sl.blk hf.l hg
    exact Blk.ne_ hc hf.blk (by decide) rfl
  obtain ⟨a, c, hb, _, _⟩ := hf.b.shape
  refine ⟨⟨a, c, ?_⟩, hf.blk.frozen, hf.blk.lt, ⟨(fs f).marked, ?_⟩, After.file h hF hi (S := [f]) (b' := bv f) (l' := lv f) ((Only.refl _ w).setCell (.inl (by simp)) _) (fun k hk => .inl (by simpa using hk)) ⟨?_, ?_, ?_, ?_⟩ (fun g hg => .inl hg) (fun g hg => .inl hg) (fun g hg => h.fs.s1 f f g hi hi hg)⟩
  · have := hf.blk.cell 0
    rw [← hb]
    simpa using this
  · have := hf.blk.cell 2
    simpa using this
  · have := hf.blk.set_ 2 (iv (fs f).b.length)
    simpa using this
  · exact hf.b.far (fun e => nb f e rfl) _
  · exact hf.l.far (fun e => nl f e rfl) _
  · exact ⟨hf.ok.1, Nat.le_refl _, hf.ok.2.2⟩
set_option maxRecDepth 100000 in
set_option maxHeartbeats 3200000 in
theorem sync_some (h0 : DK w F d p fs ids) (hc : p.calm) {s : Nm} {f : Nat} (hf : findR p s = (some f, 0)) (hi : ids f) : Calls Try.prog 11 #[cp d, sk s] w fun e w' =>
    e = .returned (iv (p.sync fs s).1) ∧ After w F d (p.sync fs s).2.1 (p.sync fs s).2.2 ids w' := by
  have HFI := Lib.hid (find_dk h0 s)
  have HOP := Lib.hid (opd_sy h0)
  have HC := Lib.hid (hc.op .sy)
  have HID := Lib.hid hi
  have xl := h0.lt
  unfold PD.sync
  rw [hf] at HFI ⊢
  dsimp only [optP] at HFI ⊢
  clear h0 hc hf hi
  generalize (p.op .sy).flt = x at HOP HC ⊢
  obtain ⟨xa, xk, xp⟩ := x
  unfold fltV at HOP
  dsimp only at HOP HC ⊢
  by_cases h1 : xk = 1
  · subst h1
    simp only [if_true]
    go_enter Try.func11, Try.ntmps11
    go_wp2_with fail
    refine HFI.out.mono ?_
    rintro e w1 ⟨rfl, rfl⟩
    clear HFI
    go_wp2_with fail
    refine HOP.out.mono ?_
    rintro e w2 ⟨rfl, ha⟩
    have HA := Lib.hid ha
    clear HOP ha xl
    go_wp2_with (refine wpList_store_blk (g := w2.heap.size) (k := 0) rfl 83 (.tmp 7) (.tmp 22) rfl [iv xa, iv 1, iv xp] rfl rfl (Blk.new w2 83 #[iv 0, iv 0, iv 0]) (by kernel_rfl) (by simp) (by simp [Value.oneCell']) ?_)
    intro w3 hB hO
    have HB3 := Lib.hid (show Blk w3 w2.heap.size 83 #[iv xa, iv 1, iv xp] by simpa using hB)
    have HO3 := Lib.hid (only_new hO)
    have HD3 := Lib.hid (HA.out.1.only0 HO3.out)
    have HXN := Lib.hid (show ¬ grow F w1 w2 w2.heap.size from fun hg => by have := HA.out.1.2 _ hg; omega)
    clear hB hO
    generalize hxb : w2.heap.size = xb at HB3 HXN ⊢
    clear hxb
    obtain ⟨⟨ba, bc, c0⟩, cf, cl, ⟨cm, c2⟩, hM⟩ := mark_dk HD3.out HID.out
    have HM := Lib.hid hM
    have HB4 := Lib.hid (Go.Proofs.Ythekilgolelomaa.Blk.turn HB3.out hM.2 HXN.out)
    clear hM
    have x0 := HB3.out.cell 0
    have x1 := HB3.out.cell 1
    have x2 := HB3.out.cell 2
    have xlb := HB3.out.lt
    simp at x0 x1 x2
    go_upto_region 9 with fail
    clear x0 x1 x2 xlb c0 cf cl c2
    have HBF := Lib.hid (befall_dk HM.out.1 (xa, 1, xp) HC.out)
    unfold fltV at HBF
    dsimp only at HBF
    have x0 := HB4.out.cell 0
    have x1 := HB4.out.cell 1
    have x2 := HB4.out.cell 2
    have xlb := HB4.out.lt
    simp at x0 x1 x2
    go_wp2_with fail
    refine HBF.out.mono ?_
    rintro e w4 ⟨rfl, ha4⟩
    have HE := Lib.hid (HA.out.trans (After.quiet_then HO3.out (HM.out.trans ha4)))
    clear ha4 HBF x0 x1 x2 xlb
    go_wp2
    exact bodyPost_ret (results_tmp rfl _ _ _) rfl ⟨rfl, HE.out⟩
  by_cases h3 : xk = 3
  · subst h3
    simp only [if_true, h1, if_false]
    clear h1
    go_enter Try.func11, Try.ntmps11
    go_wp2_with fail
    refine HFI.out.mono ?_
    rintro e w1 ⟨rfl, rfl⟩
    clear HFI
    go_wp2_with fail
    refine HOP.out.mono ?_
    rintro e w2 ⟨rfl, ha⟩
    have HA := Lib.hid ha
    clear HOP ha xl
    go_wp2_with (refine wpList_store_blk (g := w2.heap.size) (k := 0) rfl 83 (.tmp 7) (.tmp 22) rfl [iv xa, iv 3, iv xp] rfl rfl (Blk.new w2 83 #[iv 0, iv 0, iv 0]) (by kernel_rfl) (by simp) (by simp [Value.oneCell']) ?_)
    intro w3 hB hO
    have HB3 := Lib.hid (show Blk w3 w2.heap.size 83 #[iv xa, iv 3, iv xp] by simpa using hB)
    have HO3 := Lib.hid (only_new hO)
    have HD3 := Lib.hid (HA.out.1.only0 HO3.out)
    have HXN := Lib.hid (show ¬ grow F w1 w2 w2.heap.size from fun hg => by have := HA.out.1.2 _ hg; omega)
    clear hB hO
    generalize hxb : w2.heap.size = xb at HB3 HXN ⊢
    clear hxb
    have HBF := Lib.hid (befall_dk HD3.out (xa, 3, xp) HC.out)
    unfold fltV at HBF
    dsimp only at HBF
    have x0 := HB3.out.cell 0
    have x1 := HB3.out.cell 1
    have x2 := HB3.out.cell 2
    have xlb := HB3.out.lt
    simp at x0 x1 x2
    go_wp2_with fail
    refine HBF.out.mono ?_
    rintro e w4 ⟨rfl, ha4⟩
    have HE := Lib.hid (HA.out.trans (After.quiet_then HO3.out ha4))
    clear ha4 HBF x0 x1 x2 xlb
    go_wp2
    exact bodyPost_ret (results_tmp rfl _ _ _) rfl ⟨rfl, HE.out⟩
  simp only [h1, h3, if_false]
  have k1 : (xk == 1) = false := by simpa using h1
  have k3 : (xk == 3) = false := by simpa using h3
  have k4 : (xk == 4) = false := by simpa using HC.out
  clear h1 h3
  go_enter Try.func11, Try.ntmps11
  go_wp2_with fail
  refine HFI.out.mono ?_
  rintro e w1 ⟨rfl, rfl⟩
  clear HFI
  go_wp2_with fail
  refine HOP.out.mono ?_
  rintro e w2 ⟨rfl, ha⟩
  have HA := Lib.hid ha
  clear HOP ha xl
  go_wp2_with (refine wpList_store_blk (g := w2.heap.size) (k := 0) rfl 83 (.tmp 7) (.tmp 22) rfl [iv xa, iv xk, iv xp] rfl rfl (Blk.new w2 83 #[iv 0, iv 0, iv 0]) (by kernel_rfl) (by simp) (by simp [Value.oneCell']) ?_)
  intro w3 hB hO
  have HB3 := Lib.hid (show Blk w3 w2.heap.size 83 #[iv xa, iv xk, iv xp] by simpa using hB)
  have HO3 := Lib.hid (only_new hO)
  have HD3 := Lib.hid (HA.out.1.only0 HO3.out)
  have HXN := Lib.hid (show ¬ grow F w1 w2 w2.heap.size from fun hg => by have := HA.out.1.2 _ hg; omega)
  clear hB hO
  generalize hxb : w2.heap.size = xb at HB3 HXN ⊢
  clear hxb
  have HSY := Lib.hid (syncf_dk HD3.out HID.out)
  have x0 := HB3.out.cell 0
  have x1 := HB3.out.cell 1
  have x2 := HB3.out.cell 2
  have xlb := HB3.out.lt
  simp at x0 x1 x2
  go_wp2_with fail
  refine HSY.out.mono ?_
  rintro e w4 ⟨rfl, ha4⟩
  have HE := Lib.hid (HA.out.trans (After.quiet_then HO3.out ha4))
  clear ha4 HSY x0 x1 x2 xlb
  go_wp2
  exact bodyPost_ret (results_tmp rfl _ _ _) rfl ⟨rfl, HE.out⟩
set_option maxRecDepth 100000 in
theorem sync_none (h0 : DK w F d p fs ids) {s : Nm} {e : Int} (hf : findR p s = (none, e)) (he : e ≠ 0) : Calls Try.prog 11 #[cp d, sk s] w fun e' w' => e' = .returned (iv e) ∧ w' = w := by
  have HFI := Lib.hid (find_dk h0 s)
  rw [hf] at HFI
  dsimp only [optP] at HFI
  have k0 : (e != 0) = true := by simpa using he
  clear h0 hf he
  go_enter Try.func11, Try.ntmps11
  go_wp2_with fail
  refine HFI.out.mono ?_
  rintro e w1 ⟨rfl, rfl⟩
  go_wp2
  exact bodyPost_ret (results_tmp rfl _ _ _) rfl ⟨rfl, rfl⟩
theorem find_split (h0 : DK w F d p fs ids) (s : Nm) : (∃ f, findR p s = (some f, 0) ∧ p.now.get s = some f ∧ ids f) ∨ ∃ e, findR p s = (none, e) ∧ e ≠ 0 := by
  by_cases he : (findR p s).2 = 0
  · exact .inl (find_dk_some h0 he)
  · refine .inr ⟨(findR p s).2, ?_, he⟩
    rw [← find_none he]
theorem syncD_ok (h0 : DK w F d p fs ids) (hc : p.calm) (s : Nm) : Calls Try.prog 11 #[cp d, sk s] w fun e w' =>
    e = .returned (iv (p.sync fs s).1) ∧ After w F d (p.sync fs s).2.1 (p.sync fs s).2.2 ids w' := by
  rcases find_split h0 s with ⟨f, hf, _, hi⟩ | ⟨e, hf, he⟩
  · exact sync_some h0 hc hf hi
  · refine (sync_none h0 hf he).mono ?_
    rintro e' w' ⟨rfl, rfl⟩
    unfold PD.sync
    rw [hf]
    exact ⟨rfl, After.same h0⟩
/-- What is read. -/
def PD.read (p : PD) (fs : Nat → FD) (s : Nm) (off n : Int) : List UInt8 × Int := match findR p s with
  | (none, e) => ([], e)
  | (some f, _) => if off < 0 ∨ n < 0 ∨ ((fs f).b.length : Int) < off ∨ ((fs f).b.length : Int) - off < n then ([], 8) else (((fs f).b.drop off.toNat).take n.toNat, 0)
theorem Sl.mid {e : TypeId} {size n cap o k : Nat} {a : Option Addr} {xs : List Value} (h : Sl w e size (.slice a n cap) n xs) (h1 : o + k ≤ n) (hc : n ≤ cap) :
    Sl w e size (.slice (if cap = o then a else a.map (·.add (o * size))) k (cap - o)) k ((xs.drop (o * size)).take (k * size)) :=
  Sl.front (h.cut (k := o) (by omega)) (by omega) (by omega) (Nat.le_refl _)
theorem rd_num {L o k bc : Nat} (hL : L ≤ 1073741824) (hbc : L ≤ bc) (h4 : ¬ (L : Int) - (o : Int) < (k : Int)) (h3 : ¬ (L : Int) < (o : Int)) :
    wrap64 ((L : Int) - (o : Int)) = (L : Int) - (o : Int) ∧ wrap64 ((o : Int) + (k : Int)) = ((o + k : Nat) : Int) ∧ (o : Int) ≤ ((o + k : Nat) : Int) ∧ ((o + k : Nat) : Int) ≤ (bc : Int) ∧ o + k ≤ L ∧ k ≤ 1073741824 := by
  refine ⟨wrap_d (by omega), ?_, by omega, by omega, by omega, by omega⟩
  rw [wrap_d (by omega)]
  omega
theorem rd_len {l : List UInt8} {L o k : Nat} (h : l.length = L) (hk : o + k ≤ L) : ((l.drop (o : Int).toNat).take (k : Int).toNat).length = k := by
  simp
  omega
set_option maxRecDepth 100000 in
set_option maxHeartbeats 3200000 in
theorem read_some (h0 : DK w F d p fs ids) {s : Nm} {f : Nat} (hf : findR p s = (some f, 0)) (hi : ids f) (off n : Int) : Calls Try.prog 15 #[cp d, sk s, iv off, iv n] w fun e w' =>
    ∃ v, e = .returned (.tuple #[v, iv (p.read fs s off n).2]) ∧ Sl w' 5 1 v (p.read fs s off n).1.length (byV (p.read fs s off n).1) ∧ Only [] w w' ∧ ∀ g, v.ownBlock = some g → w.heap.size ≤ g := by
  have HFI := Lib.hid (find_dk h0 s)
  unfold PD.read
  rw [hf] at HFI ⊢
  dsimp only [optP] at HFI ⊢
  obtain ⟨⟨nb, lb, pv, fv, bv, lv, h⟩, hF⟩ := h0
  obtain ⟨j5, si, sz0, sz1, sz2⟩ := info_parts info5
  have hfm := h.fs.file f hi
  have HB := Lib.hid hfm.b
  have HLB := Lib.hid hfm.ok.2.2
  obtain ⟨ba, bc, hbv, hbc, _⟩ := hfm.b.shape
  have x0 := hfm.blk.cell 0
  have xl := hfm.blk.lt
  simp at x0
  rw [hbv] at x0 HB
  obtain ⟨L, hL⟩ : ∃ L, (fs f).b.length = L := ⟨_, rfl⟩
  have HLE := Lib.hid hL
  rw [hL] at x0 HB HLB hbc ⊢
  clear h hfm hbv hf hF hL hi
  by_cases h1 : off < 0
  · rw [if_pos (.inl h1)]
    go_enter Try.func15, Try.ntmps15
    go_wp2_with fail
    refine HFI.out.mono ?_
    rintro e w1 ⟨rfl, rfl⟩
    clear HFI
    go_wp2
    refine bodyPost_ret (results2 rfl (res_tmp rfl) (res_tmp rfl)) rfl ⟨_, rfl, Sl.nil _ _ _, (by first | exact Only.refl _ _ | exact (Only.refl _ _).drew | exact (Only.refl _ _).drewN _), ?_⟩
    intro g hg
    cases hg
  by_cases h2 : n < 0
  · rw [if_pos (.inr (.inl h2))]
    go_enter Try.func15, Try.ntmps15
    go_wp2_with fail
    refine HFI.out.mono ?_
    rintro e w1 ⟨rfl, rfl⟩
    clear HFI
    go_wp2
    refine bodyPost_ret (results2 rfl (res_tmp rfl) (res_tmp rfl)) rfl ⟨_, rfl, Sl.nil _ _ _, (by first | exact Only.refl _ _ | exact (Only.refl _ _).drew | exact (Only.refl _ _).drewN _), ?_⟩
    intro g hg
    cases hg
  by_cases h3 : (L : Int) < off
  · rw [if_pos (.inr (.inr (.inl h3)))]
    go_enter Try.func15, Try.ntmps15
    go_wp2_with fail
    refine HFI.out.mono ?_
    rintro e w1 ⟨rfl, rfl⟩
    clear HFI
    go_wp2
    refine bodyPost_ret (results2 rfl (res_tmp rfl) (res_tmp rfl)) rfl ⟨_, rfl, Sl.nil _ _ _, (by first | exact Only.refl _ _ | exact (Only.refl _ _).drew | exact (Only.refl _ _).drewN _), ?_⟩
    intro g hg
    cases hg
  have hLz := HLB.out
  by_cases h4 : (L : Int) - off < n
  · rw [if_pos (.inr (.inr (.inr h4)))]
    have hsub : wrap64 ((L : Int) - off) = (L : Int) - off := wrap_d (by omega)
    clear hLz
    go_enter Try.func15, Try.ntmps15
    go_wp2_with fail
    refine HFI.out.mono ?_
    rintro e w1 ⟨rfl, rfl⟩
    clear HFI
    go_wp2
    refine bodyPost_ret (results2 rfl (res_tmp rfl) (res_tmp rfl)) rfl ⟨_, rfl, Sl.nil _ _ _, (by first | exact Only.refl _ _ | exact (Only.refl _ _).drew | exact (Only.refl _ _).drewN _), ?_⟩
    intro g hg
    cases hg
  rw [if_neg (by omega)]
  obtain ⟨o, rfl⟩ : ∃ o : Nat, off = o := ⟨off.toNat, by omega⟩
  obtain ⟨k, rfl⟩ : ∃ k : Nat, n = k := ⟨n.toNat, by omega⟩
  dsimp only
  obtain ⟨hsub, hsum, hoc, hkc, hokL, hkL⟩ := rd_num hLz hbc h4 h3
  have HF := Lib.hid (Go.Proofs.Ythekilgolelomaa.Sl.mid HB.out (o := o) (k := k) hokL hbc)
  have HKL := Lib.hid hkL
  rw [Nat.mul_one, Nat.mul_one] at HF
  have HLK := Lib.hid (rd_len HLE.out hokL)
  have HMK := Lib.hid (Nat.add_sub_cancel_left o k)
  obtain ⟨M, hM⟩ : ∃ M, o + k = M := ⟨_, rfl⟩
  rw [hM] at hsum hoc hkc HMK
  clear hokL hkL
  have hbm : byV (((fs f).b.drop o).take k) = ((byV (fs f).b).drop o).take k := by unfold byV; rw [List.map_take, List.map_drop]
  rw [← hbm, ← HMK.out] at HF
  clear hbm hLz hM
  by_cases hq : bc = o
  · rw [if_pos hq] at HF
    subst hq
    rw [Nat.sub_self] at HF
    go_enter Try.func15, Try.ntmps15
    go_wp2_with fail
    refine HFI.out.mono ?_
    rintro e w1 ⟨rfl, rfl⟩
    clear HFI
    go_upto_region 6 with fail
    go_wp2_with (at_builtin; refine wpList_append_sls rfl (.const (.slice none 0 0)) (.tmp 55) 29 rfl 5 j5 _ 1 1 Try.underlying29 si sz0 sz1 sz2 rfl (by decide) rfl (Sl.nil _ _ _) rfl HF.out (by intro u hu; obtain ⟨c, _, rfl⟩ := List.mem_map.1 hu; rfl) (by have := HKL.out; have := HMK.out; unfold maxLen; omega) (by have := HKL.out; have := HMK.out; omega) ?_)
    rw [HMK.out]
    intro v4 w4 hS4 hg4 hat4
    have ho4 : Only [] w1 w4 := (Only.refl _ _).grown hg4 fun k hk => by cases hk
    have HS4 := Lib.hid (show Sl w4 5 1 v4 k (byV (((fs f).b.drop bc).take k)) by simpa using hS4)
    have HW4 := Lib.hid (show ∀ g, v4.ownBlock = some g → w1.heap.size ≤ g from fun g hg => by
      rcases hat4 with e | e
      · rw [e] at hg; cases hg
      · rw [e] at hg
        injection hg with hg
        omega)
    have HO4 := Lib.hid ho4
    obtain ⟨va, vc, hv4, _, _⟩ := hS4.shape
    subst hv4
    clear hS4 hg4 hat4 ho4 x0 xl
    go_wp2
    exact bodyPost_ret (results2 rfl (res_tmp rfl) (res_tmp rfl)) rfl ⟨_, rfl, by rw [HLK.out]; simpa using HS4.out, HO4.out, HW4.out⟩
  · rw [if_neg hq] at HF
    go_enter Try.func15, Try.ntmps15
    go_wp2_with fail
    refine HFI.out.mono ?_
    rintro e w1 ⟨rfl, rfl⟩
    clear HFI
    go_upto_region 6 with fail
    go_wp2_with (at_builtin; refine wpList_append_sls rfl (.const (.slice none 0 0)) (.tmp 55) 29 rfl 5 j5 _ 1 1 Try.underlying29 si sz0 sz1 sz2 rfl (by decide) rfl (Sl.nil _ _ _) rfl HF.out (by intro u hu; obtain ⟨c, _, rfl⟩ := List.mem_map.1 hu; rfl) (by have := HKL.out; have := HMK.out; unfold maxLen; omega) (by have := HKL.out; have := HMK.out; omega) ?_)
    rw [HMK.out]
    intro v4 w4 hS4 hg4 hat4
    have ho4 : Only [] w1 w4 := (Only.refl _ _).grown hg4 fun k hk => by cases hk
    have HS4 := Lib.hid (show Sl w4 5 1 v4 k (byV (((fs f).b.drop o).take k)) by simpa using hS4)
    have HW4 := Lib.hid (show ∀ g, v4.ownBlock = some g → w1.heap.size ≤ g from fun g hg => by
      rcases hat4 with e | e
      · rw [e] at hg; cases hg
      · rw [e] at hg
        injection hg with hg
        omega)
    have HO4 := Lib.hid ho4
    obtain ⟨va, vc, hv4, _, _⟩ := hS4.shape
    subst hv4
    clear hS4 hg4 hat4 ho4 x0 xl
    go_wp2
    exact bodyPost_ret (results2 rfl (res_tmp rfl) (res_tmp rfl)) rfl ⟨_, rfl, by rw [HLK.out]; simpa using HS4.out, HO4.out, HW4.out⟩
set_option maxRecDepth 100000 in
theorem read_none (h0 : DK w F d p fs ids) {s : Nm} {e : Int} (hf : findR p s = (none, e)) (he : e ≠ 0) (off n : Int) : Calls Try.prog 15 #[cp d, sk s, iv off, iv n] w fun e' w' => e' = .returned (.tuple #[.slice none 0 0, iv e]) ∧ w' = w := by
  have HFI := Lib.hid (find_dk h0 s)
  rw [hf] at HFI
  dsimp only [optP] at HFI
  have k0 : (e != 0) = true := by simpa using he
  clear h0 hf he
  go_enter Try.func15, Try.ntmps15
  go_wp2_with fail
  refine HFI.out.mono ?_
  rintro e w1 ⟨rfl, rfl⟩
  clear HFI
  go_wp2
  exact bodyPost_ret (results2 rfl (res_tmp rfl) (res_tmp rfl)) rfl ⟨rfl, rfl⟩
theorem read_ok (h0 : DK w F d p fs ids) (s : Nm) (off n : Int) : Calls Try.prog 15 #[cp d, sk s, iv off, iv n] w fun e w' =>
    ∃ v, e = .returned (.tuple #[v, iv (p.read fs s off n).2]) ∧ Sl w' 5 1 v (p.read fs s off n).1.length (byV (p.read fs s off n).1) ∧ Only [] w w' ∧ ∀ g, v.ownBlock = some g → w.heap.size ≤ g := by
  rcases find_split h0 s with ⟨f, hf, _, hi⟩ | ⟨e, hf, he⟩
  · exact read_some h0 hf hi off n
  · refine (read_none h0 hf he off n).mono ?_
    rintro e' w' ⟨rfl, rfl⟩
    unfold PD.read
    rw [hf]
    exact ⟨_, rfl, Sl.nil _ _ _, Only.refl _ _, fun g hg => by cases hg⟩
end
end Go.Proofs.Ythekilgolelomaa
