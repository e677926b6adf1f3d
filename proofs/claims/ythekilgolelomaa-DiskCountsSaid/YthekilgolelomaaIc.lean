/-
  DiskCounts: its walk.
-/
import Derived.Test.YthekilgolelomaaIb
import Derived.Deep.CutBlock
set_option linter.unusedSimpArgs false
set_option linter.unusedVariables false
namespace Go.Proofs.Ythekilgolelomaa
open Go.RowKit Go.Fl

/-- The cells of a call, as they lie. -/
theorem op_cells {w : World} {g o c n : Nat} {l : List OpA} (h : OpS w (.slice (some ⟨g, o, none⟩) n c) l) {k : Nat} (hk : k < l.length) {x : OpA} (hx : l[k] = x) :
    w.cell? ⟨g, o + k * 10, none⟩ = some (iv x.kind) ∧ w.cell? ⟨g, o + k * 10 + 1, none⟩ = some (.bool x.second) ∧ w.cell? ⟨g, o + k * 10 + 2, none⟩ = some (sk x.name) ∧ w.cell? ⟨g, o + k * 10 + 3, none⟩ = some (sk x.nto) ∧ w.cell? ⟨g, o + k * 10 + 4, none⟩ = some x.dv ∧
    w.cell? ⟨g, o + k * 10 + 5, none⟩ = some (iv x.off) ∧ w.cell? ⟨g, o + k * 10 + 6, none⟩ = some (iv x.n) ∧ w.cell? ⟨g, o + k * 10 + 7, none⟩ = some x.fv ∧ w.cell? ⟨g, o + k * 10 + 8, none⟩ = some (iv x.dir) ∧ w.cell? ⟨g, o + k * 10 + 9, none⟩ = some x.kv := by
  have hl : n = l.length := by
    obtain ⟨_, _, hv, _, _⟩ := h.1.shape
    injection hv
  subst hl
  have e : ∀ j, (hj : j < 10) → w.cell? ⟨g, o + k * 10 + j, none⟩ = (x.cells)[j]? := fun j hj => by
    have h1 := ocs_get l k j hk hj
    rw [hx] at h1
    obtain ⟨u, hu⟩ : ∃ u, (x.cells)[j]? = some u := ⟨_, List.getElem?_eq_getElem hj⟩
    rw [hu] at h1 ⊢
    have := h.1.cells_ _ _ h1
    rw [Addr.add_lit] at this
    rw [Nat.add_assoc]
    exact this
  exact ⟨e 0 (by decide), e 1 (by decide), e 2 (by decide), e 3 (by decide), e 4 (by decide), e 5 (by decide), e 6 (by decide), e 7 (by decide), e 8 (by decide), e 9 (by decide)⟩
set_option maxRecDepth 100000 in
set_option maxHeartbeats 6400000 in
theorem counts_ok (w : World) {v : Value} {l : List OpA} (hv : OpS w v l) : Calls Try.prog 3 #[v] w fun e w' => e = .returned (.bool true) ∧ Only [] w w' := by
  have HV := Lib.hid hv
  obtain ⟨va, vc, hvv, hvc, _⟩ := hv.1.shape
  subst hvv
  clear hv
  obtain ⟨N, hN⟩ : ∃ N, l.length = N := ⟨_, rfl⟩
  have HN := Lib.hid hN
  rw [hN] at hvc ⊢
  clear hN
  go_enter Try.func3, Try.ntmps3
  go_wp2_with fail
  refine (begun_ok w).mono ?_
  rintro e w1 ⟨rfl, ho⟩
  have HO1 := Lib.hid ho
  clear ho
  go_wp2_with fail
  refine (new_ok w1 65536 (by omega) (by omega)).mono ?_
  rintro e w2 ⟨rfl, ha⟩
  obtain ⟨d, hd⟩ : ∃ d, w1.heap.size + 2 = d := ⟨_, rfl⟩
  rw [hd] at ha ⊢
  have H2 := Lib.hid (show CW w w2 d [] 0 0 Cnt.zero from ⟨_, _, _, _, Own.new HO1.out ha, rfl, rfl, CN.zero, Nat.le_refl _, fun x hx => by cases hx⟩)
  clear ha hd HO1
  go_wp2_with (refine wpList_store_blk (g := w2.heap.size) (k := 0) rfl 28 (.tmp 4) (.tmp 15) rfl [cp d, .pointer none] rfl rfl (Blk.new w2 28 #[.pointer none, .pointer none]) (by kernel_rfl) (by simp) (by simp [Value.oneCell']) ?_)
  intro w3 hB hO
  have H3 := Lib.hid (H2.out.add (only_new hO) (show Blk w3 w2.heap.size 28 #[cp d, .pointer none] by simpa using hB) (Nat.le_refl _))
  generalize w2.heap.size = pb at H3 ⊢
  clear hB hO H2
  go_wp2
  go_loopw [5, 6] (fun z5 z6 wr => ∃ (all : Int) (k : Nat) (c : Cnt), z5 = .int .i64 all ∧ z6 = .int .i64 k ∧ Hid (k ≤ N) ∧ Hid (k ≤ 100) ∧ Hid (CW w wr d [⟨pb, 28, #[cp d, .pointer none]⟩] k all c)) (fun _ z6 _ => N - (intOf z6).toNat)
  case atStart => exact ⟨0, 0, _, rfl, rfl, Lib.hid (Nat.zero_le _), Lib.hid (Nat.zero_le _), H3⟩
  case round =>
    obtain ⟨all, k, c, rfl, rfl, HK, HK1, HI⟩ := hrel
    by_cases hkl : k < N
    case neg =>
      have hkz : ¬ (k : Int) < (N : Int) := nlt_z hkl
      clear hkl
      go_wp2
      exact bodyPost_ret (results_tmp rfl _ _ _) rfl ⟨rfl, HI.out.only⟩
    have hkz : (k : Int) < (N : Int) := lt_z hkl
    by_cases hkh : k < 100
    case neg =>
      have hkhz : ¬ (k : Int) < 100 := by omega
      clear hkl hkh
      go_wp2
      exact bodyPost_ret (results_tmp rfl _ _ _) rfl ⟨rfl, HI.out.only⟩
    have hkhz : (k : Int) < 100 := by omega
    have hka : k < l.length := by rw [HN.out]; exact hkl
    have HVR := Lib.hid (HV.out.only0 HI.out.only)
    obtain ⟨g, o, c', hv, hfm⟩ := HVR.out.1.form (by omega)
    injection hv with hva hvl hvc
    subst hva
    subst hvc
    clear hvl hfm
    obtain ⟨x, hx⟩ : ∃ x, l[k] = x := ⟨_, rfl⟩
    have HX := Lib.hid (show x.In w from HV.out.2 x (by rw [← hx]; exact List.getElem_mem hka))
    obtain ⟨y0, y1, y2, y3, y4, y5, y6, y7, y8, y9⟩ := op_cells HVR.out hka hx
    clear hx
    obtain ⟨kind, sec, name, nto, dv, data, off, n, fv, faults, dir, kv, kj⟩ := x
    dsimp only at y0 y1 y2 y3 y4 y5 y6 y7 y8 y9
    have HD := Lib.hid HX.out.data
    dsimp only at HD
    obtain ⟨da, dc, hdv, hdc, _⟩ := HD.out.shape
    subst hdv
    obtain ⟨fa, fc, hfv, _, _⟩ := HX.out.flt.shape
    dsimp only at hfv
    subst hfv
    obtain ⟨ka, kc, hkv, _, _⟩ := HX.out.ks.1.shape
    dsimp only at hkv
    subst hkv
    clear HX
    obtain ⟨L, hL⟩ : ∃ L, data = L := ⟨_, rfl⟩
    subst hL
    have HMS := Lib.hid (meas hkl)
    have HKL := Lib.hid hkl
    have HK2 := Lib.hid (show k + 1 ≤ 101 by omega)
    have HK3 := Lib.hid (show k + 1 ≤ 100 by omega)
    have HCN := Lib.hid (show 0 ≤ all ∧ all ≤ k from by
      have := HI.out.cn
      obtain ⟨_, a2, a3, a4, _⟩ := this
      omega)
    have HE8 := Lib.hid (show wrap64 ((k : Int) + 1) = ((k + 1 : Nat) : Int) by rw [wrap_d (by omega)]; rfl)
    clear hkl hka hkh
    go_wp2_with (refine wpList_store_blk (g := wr.heap.size) (k := 0) rfl 35 (.tmp 7) (.tmp 29) rfl [iv kind, .bool sec, sk name, sk nto, .slice da data.length dc, iv off, iv n, .slice fa faults.length fc, iv dir, .slice ka kj.length kc] rfl rfl (Blk.new wr 35 #[iv 0, .bool false, sk [], sk [], .slice none 0 0, iv 0, iv 0, .slice none 0 0, iv 0, .slice none 0 0]) (by kernel_rfl) (by simp) (by simp [Value.oneCell']) ?_)
    clear hkz hkhz
    intro w4 hB hO
    have H4 := Lib.hid (HI.out.add (only_new hO) (show Blk w4 wr.heap.size 35 #[iv kind, .bool sec, sk name, sk nto, .slice da data.length dc, iv off, iv n, .slice fa faults.length fc, iv dir, .slice ka kj.length kc] by simpa using hB) (Nat.le_refl _))
    generalize wr.heap.size = ob at H4 ⊢
    clear hB hO y0 y1 y2 y3 y4 y5 y6 y7 y8 y9
    have hop : ∀ wx K k2 al2 c2, CW w wx d K k2 al2 c2 → (⟨ob, 35, #[iv kind, .bool sec, sk name, sk nto, .slice da data.length dc, iv off, iv n, .slice fa faults.length fc, iv dir, .slice ka kj.length kc]⟩ : Bx) ∈ K →
        wx.cell? ⟨ob, 0, none⟩ = some (iv kind) ∧ wx.cell? ⟨ob, 2, none⟩ = some (sk name) ∧ wx.cell? ⟨ob, 3, none⟩ = some (sk nto) ∧ wx.cell? ⟨ob, 4, none⟩ = some (.slice da data.length dc) ∧ wx.cell? ⟨ob, 5, none⟩ = some (iv off) ∧ wx.cell? ⟨ob, 6, none⟩ = some (iv n) := fun wx K k2 al2 c2 h hm => by
      have hb := h.blk _ hm
      have x0 := hb.cell 0
      have x2 := hb.cell 2
      have x3 := hb.cell 3
      have x4 := hb.cell 4
      have x5 := hb.cell 5
      have x6 := hb.cell 6
      simp at x0 x2 x3 x4 x5 x6
      exact ⟨x0, x2, x3, x4, x5, x6⟩
    have HOP := Lib.hid hop
    clear hop
    obtain ⟨z0, z2, z3, z4, z5, z6⟩ := HOP.out _ _ _ _ _ H4.out (by simp)
    have HLC := Lib.hid (show 5000 < data.length ∨ data.length ≤ 5000 by omega)
    rcases HLC.out with hL5 | hL5
    · have hLz : decide (5000 < (data.length : Int)) = true := decide_eq_true (Int.ofNat_lt.2 hL5)
      clear hL5 HLC
      go_wp2
      go_roundw
      case measure => (try rw [HE8.out]); exact HMS.out
      case rel => exact ⟨all, k + 1, _, rfl, by first | rfl | rw [HE8.out], Lib.hid HKL.out, HK3, Lib.hid (H4.out.none.less (by simp))⟩
    have hLz : decide (5000 < (data.length : Int)) = false := decide_eq_false fun h => Nat.not_lt.2 hL5 (Int.ofNat_lt.1 h)
    have HLL := Lib.hid hL5
    clear hL5 HLC
    have x0 := (H4.out.blk ⟨pb, 28, #[cp d, .pointer none]⟩ (by simp)).cell 0
    simp at x0
    go_wp2_with fail
    refine H4.out.count.mono ?_
    rintro e w5 ⟨rfl, ho⟩
    have H5 := Lib.hid (H4.out.quiet ho)
    clear ho x0 H4 z0 z2 z3 z4 z5 z6 hLz
    go_wp2_with (refine wpList_store_blk (g := w5.heap.size) (k := 0) rfl 37 (.tmp 8) (.tmp 36) rfl [iv c.cr, iv c.ap, iv c.sy, iv c.cu, iv c.rn, iv c.rm, iv c.ds, iv c.all, iv c.by_] rfl rfl (Blk.new w5 37 #[iv 0, iv 0, iv 0, iv 0, iv 0, iv 0, iv 0, iv 0, iv 0]) (by kernel_rfl) (by simp) (by simp [Value.oneCell']) ?_)
    intro w5b hB hO
    have H5b := Lib.hid (H5.out.add (only_new hO) (show Blk w5b w5.heap.size 37 #[iv c.cr, iv c.ap, iv c.sy, iv c.cu, iv c.rn, iv c.rm, iv c.ds, iv c.all, iv c.by_] by simpa using hB) (Nat.le_refl _))
    generalize w5.heap.size = wb at H5b ⊢
    clear hB hO H5
    have x0 := (H5b.out.blk ⟨pb, 28, #[cp d, .pointer none]⟩ (by simp)).cell 0
    simp at x0
    obtain ⟨z0, z2, z3, z4, z5, z6⟩ := HOP.out _ _ _ _ _ H5b.out (by simp)
    have HKL0 := Lib.hid (show k ≤ 100 by have := HK3.out; omega)
    have HD5 := Lib.hid (show Sr w 1 (.slice da data.length dc) data.length (byV data) from HD.out)
    go_upto_block 2 with fail
    go_cut [9] (fun u9 wx => ∃ E all2 c2, u9 = iv E ∧ CT E all all2 c c2 ∧ CW w wx d [⟨wb, 37, #[iv c.cr, iv c.ap, iv c.sy, iv c.cu, iv c.rn, iv c.rm, iv c.ds, iv c.all, iv c.by_]⟩, ⟨ob, 35, #[iv kind, .bool sec, sk name, sk nto, .slice da data.length dc, iv off, iv n, .slice fa faults.length fc, iv dir, .slice ka kj.length kc]⟩, ⟨pb, 28, #[cp d, .pointer none]⟩] (k + 1) all2 c2)
    case first =>
      by_cases k1 : kind = 1
      · subst k1
        have hq := cw_create H5b.out HKL0.out name
        go_wp2_with fail
        refine hq.mono ?_
        rintro e w6 ⟨E, all2, c2, rfl, hct, hi⟩
        clear hq
        go_wp2_with fail
        go_meet
        case rel => exact ⟨E, all2, c2, rfl, hct, hi⟩
      by_cases k2 : kind = 2
      · subst k2
        have hq := cw_append H5b.out HKL0.out name HD5.out HLL.out
        go_wp2_with fail
        refine hq.mono ?_
        rintro e w6 ⟨N,E, all2, c2, rfl, hct, hi⟩
        clear hq
        go_wp2_with fail
        go_meet
        case rel => exact ⟨E, all2, c2, rfl, hct, hi⟩
      by_cases k3 : kind = 3
      · subst k3
        have hq := cw_sync H5b.out HKL0.out name
        go_wp2_with fail
        refine hq.mono ?_
        rintro e w6 ⟨E, all2, c2, rfl, hct, hi⟩
        clear hq
        go_wp2_with fail
        go_meet
        case rel => exact ⟨E, all2, c2, rfl, hct, hi⟩
      by_cases k5 : kind = 5
      · subst k5
        have hq := cw_rename H5b.out HKL0.out name nto
        go_wp2_with fail
        refine hq.mono ?_
        rintro e w6 ⟨E, all2, c2, rfl, hct, hi⟩
        clear hq
        go_wp2_with fail
        go_meet
        case rel => exact ⟨E, all2, c2, rfl, hct, hi⟩
      by_cases k6 : kind = 6
      · subst k6
        have hq := cw_remove H5b.out HKL0.out name
        go_wp2_with fail
        refine hq.mono ?_
        rintro e w6 ⟨E, all2, c2, rfl, hct, hi⟩
        clear hq
        go_wp2_with fail
        go_meet
        case rel => exact ⟨E, all2, c2, rfl, hct, hi⟩
      by_cases k7 : kind = 7
      · subst k7
        have hq := cw_sdir H5b.out HKL0.out
        go_wp2_with fail
        refine hq.mono ?_
        rintro e w6 ⟨E, all2, c2, rfl, hct, hi⟩
        clear hq
        go_wp2_with fail
        go_meet
        case rel => exact ⟨E, all2, c2, rfl, hct, hi⟩
      by_cases k8 : kind = 8
      · subst k8
        have hq := cw_read H5b.out name off n
        go_wp2_with fail
        refine hq.mono ?_
        rintro e w6 ⟨v, E, rfl, hi⟩
        clear hq
        go_wp2_with fail
        go_meet
        case rel => exact ⟨1, all, c, rfl, ⟨.inr ⟨by omega, rfl⟩, Int.le_refl _⟩, hi.none⟩
      go_wp2_with fail
      go_meet
      case rel => exact ⟨1, all, c, rfl, ⟨.inr ⟨by omega, rfl⟩, Int.le_refl _⟩, H5b.out.none⟩
    obtain ⟨E, all2, c2, rfl, ⟨hct, hby⟩, hi⟩ := hcut
    obtain ⟨w6, hw6⟩ : ∃ x : World, x = wc := ⟨_, rfl⟩
    subst hw6
    have H6 := Lib.hid hi
    clear hi x0 z0 z2 z3 z4 z5 z6 H5b HOP HD5 HLL HKL0
    obtain ⟨b, hb⟩ : ∃ b : Bool, (b = true ∧ all2 = all + 1) ∨ (b = false ∧ all2 = all) := by
      rcases hct with ⟨_, h⟩ | ⟨_, h⟩
      · exact ⟨true, .inl ⟨rfl, h⟩⟩
      · exact ⟨false, .inr ⟨rfl, h⟩⟩
    have HBB := Lib.hid hb
    clear hb
    go_upto_region 28 with fail
    go_cut [102] (fun a wx => ∃ b : Bool, a = .bool b ∧ w6 = wx ∧ Hid ((b = true ∧ all2 = all + 1) ∨ (b = false ∧ all2 = all)))
    case first =>
      clear HBB
      rcases hct with ⟨hE, hA⟩ | ⟨hE, hA⟩
      · rcases hE with rfl | rfl
        · go_wp2_with fail
          go_meet
          case rel => exact ⟨_, rfl, rfl, Lib.hid (.inl ⟨rfl, hA⟩)⟩
        · go_wp2_with fail
          go_meet
          case rel => exact ⟨_, rfl, rfl, Lib.hid (.inl ⟨rfl, hA⟩)⟩
      · have hE0 : (E == 0) = false := by simpa using fun h => hE (.inl h)
        have hE1 : (E == 21) = false := by simpa using fun h => hE (.inr h)
        clear hE
        go_wp2_with fail
        go_meet
        case rel => exact ⟨_, rfl, rfl, Lib.hid (.inr ⟨rfl, hA⟩)⟩
    clear hct HBB
    obtain ⟨b, rfl, hw, HBB⟩ := hcut
    subst hw
    go_upto_if 102 with fail
    go_cut [5] (fun a wx => a = iv all2 ∧ w6 = wx)
    case first =>
      have e5 : wrap64 (all + 1) = all + 1 := wrap_d (by have := HCN.out; have := HK3.out; omega)
      rcases HBB.out with ⟨rfl, rfl⟩ | ⟨rfl, rfl⟩
      · go_wp2_with fail
        go_meet
        case rel => exact ⟨by first | rfl | rw [e5], rfl⟩
      · go_wp2_with fail
        go_meet
        case rel => exact ⟨rfl, rfl⟩
    clear HBB
    obtain ⟨h1, hw⟩ := hcut
    subst h1
    subst hw

    have HT := Lib.hid H6.out.cn
    have x0 := (H6.out.blk ⟨pb, 28, #[cp d, .pointer none]⟩ (by simp)).cell 0
    simp at x0
    go_wp2_with fail
    refine H6.out.count.mono ?_
    rintro e w7 ⟨rfl, ho⟩
    have H7 := Lib.hid (H6.out.quiet ho)
    clear ho x0 H6
    obtain ⟨cr2, ap2, sy2, cu2, rn2, rm2, ds2, al2, by2⟩ := c2
    obtain ⟨t1, t2⟩ := HT.out.tail HK2.out
    dsimp only at t1 t2 hby
    subst t1
    go_wp2_with (refine wpList_store_blk (g := w7.heap.size) (k := 0) rfl 37 (.tmp 10) (.tmp 107) rfl [iv cr2, iv ap2, iv sy2, iv cu2, iv rn2, iv rm2, iv ds2, iv al2, iv by2] rfl rfl (Blk.new w7 37 #[iv 0, iv 0, iv 0, iv 0, iv 0, iv 0, iv 0, iv 0, iv 0]) (by kernel_rfl) (by simp) (by simp [Value.oneCell']) ?_)
    intro w8 hB hO
    have H8 := Lib.hid (H7.out.add (only_new hO) (show Blk w8 w7.heap.size 37 #[iv cr2, iv ap2, iv sy2, iv cu2, iv rn2, iv rm2, iv ds2, iv al2, iv by2] by simpa using hB) (Nat.le_refl _))
    generalize w7.heap.size = nb at H8 ⊢
    clear hB hO H7
    have hn := H8.out.blk ⟨nb, 37, #[iv cr2, iv ap2, iv sy2, iv cu2, iv rn2, iv rm2, iv ds2, iv al2, iv by2]⟩ (by simp)
    have hw := H8.out.blk ⟨wb, 37, #[iv c.cr, iv c.ap, iv c.sy, iv c.cu, iv c.rn, iv c.rm, iv c.ds, iv c.all, iv c.by_]⟩ (by simp)
    have n0 := hn.cell 0
    have n1 := hn.cell 1
    have n2 := hn.cell 2
    have n3 := hn.cell 3
    have n4 := hn.cell 4
    have n5 := hn.cell 5
    have n6 := hn.cell 6
    have n7 := hn.cell 7
    have n8 := hn.cell 8
    have m8 := hw.cell 8
    simp at n0 n1 n2 n3 n4 n5 n6 n7 n8 m8
    clear hn hw
    have hb2 : ¬ by2 < c.by_ := by omega
    go_wp2
    go_roundw
    case measure => (try rw [HE8.out]); exact HMS.out
    case rel => exact ⟨al2, k + 1, _, rfl, by first | rfl | rw [HE8.out], Lib.hid HKL.out, HK3, Lib.hid (H8.out.less (by simp))⟩
end Go.Proofs.Ythekilgolelomaa
