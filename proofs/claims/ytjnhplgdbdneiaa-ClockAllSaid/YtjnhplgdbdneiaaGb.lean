/-
  ClockAll: the document's Go and Jump.
-/
import Derived.Test.YtjnhplgdbdneiaaGa
set_option linter.unusedSimpArgs false
set_option linter.unusedVariables false
namespace Go.Proofs.Ytjnhplgdbdneiaa
open Go.RowKit Go.Fl

theorem tcs_one (l : List Tm) : ∀ u ∈ tcs l, u.oneCell' = true := by
  intro u hu
  obtain ⟨y, hy, hu⟩ := List.mem_flatten.1 hu
  obtain ⟨t, _, rfl⟩ := List.mem_map.1 hy
  simp at hu
  rcases hu with rfl | rfl <;> rfl
set_option maxRecDepth 100000 in
set_option maxHeartbeats 6400000 in
theorem go21 (w : World) {q now d : Nat} {n : Int} {L : List Tm} {v : Value} (h : DK w q now n L v) (hn : now < 9218868437227405312) (hd : d < 18446744073709551616) (hlen : L.length ≤ 1048576) :
    Calls Try.prog 21 #[cp q, fv d] w (DGoPost w q now d n L v) := by
  obtain ⟨j3, si, sz0, sz1, sz2⟩ := info_parts info3
  obtain ⟨j70, si7, sz70, sz71, sz72⟩ := info_parts info70
  have HP := Lib.hid (plain35 w d)
  have H := Lib.hid h
  have HN := Lib.hid hn
  have HD := Lib.hid hd
  have HLL := Lib.hid hlen
  have x0 := h.blk.cell 0
  have x1 := h.blk.cell 1
  have xf := h.blk.frozen
  have xl := h.blk.lt
  simp at x0 x1
  have HI := Lib.hid (inf11 w (plV d) (plV_lt hd))
  clear h hn hd hlen
  cases hb : plB d
  · have HF := Lib.hid hb
    rw [hb] at HP
    clear hb
    go_enter Try.func21, Try.ntmps21
    go_wp2_with fail
    refine HP.out.mono ?_
    clear HP
    rintro e w1 ⟨rfl, rfl⟩
    go_wp2
    exact bodyPost_ret (results2 rfl (res_tmp rfl) (res_tmp rfl)) rfl (by unfold DGoPost; rw [HF.out, if_neg (by simp)]; exact ⟨rfl, rfl⟩)
  have HF := Lib.hid hb
  rw [hb] at HP
  have HLE := Lib.hid (plB_le HD.out hb).1
  have hlt := ford_lt (rk_le HLE.out).2 (rk_le (Nat.le_of_lt HN.out)).2
  rw [(rk_le HLE.out).1, (rk_le (Nat.le_of_lt HN.out)).1] at hlt
  clear hb
  by_cases hb2 : plV d < now
  · have HF2 := Lib.hid hb2
    rw [decide_eq_true (by omega)] at hlt
    clear hb2
    go_enter Try.func21, Try.ntmps21
    go_wp2_with fail
    refine HP.out.mono ?_
    clear HP
    rintro e w1 ⟨rfl, rfl⟩
    go_wp2
    exact bodyPost_ret (results2 rfl (res_tmp rfl) (res_tmp rfl)) rfl (by unfold DGoPost; rw [if_neg (fun hh => by have := HF2.out; omega)]; exact ⟨rfl, rfl⟩)
  rw [decide_eq_false (by omega)] at hlt
  have HF2 := Lib.hid hb2
  clear hb2
  by_cases hi : plV d = 9218868437227405312
  · have HF3 := Lib.hid hi
    rw [decide_eq_true hi] at HI
    clear hi
    go_enter Try.func21, Try.ntmps21
    go_wp2_with fail
    refine HP.out.mono ?_
    clear HP
    rintro e w1 ⟨rfl, rfl⟩
    go_wp2_with fail
    refine HI.out.mono ?_
    clear HI
    rintro e w1 ⟨rfl, rfl⟩
    go_wp2
    exact bodyPost_ret (results2 rfl (res_tmp rfl) (res_tmp rfl)) rfl (by unfold DGoPost; rw [if_neg (fun hh => hh.2.2 HF3.out)]; exact ⟨rfl, rfl⟩)
  rw [decide_eq_false hi] at HI
  have HF3 := Lib.hid hi
  clear hi
  have HPOST := Lib.hid (show ∀ e w', (∃ A B v' z, e = .returned (.tuple #[z, iv 0]) ∧ DG w w' q (plV d) n L v A B v' z ∧ ∀ x ∈ B.head?, plV d < x.2) → DGoPost w q now d n L v e w' from fun e w' hh => by
    unfold DGoPost
    rw [if_pos ⟨HF.out, by have := HF2.out; omega, HF3.out⟩]
    exact hh)
  generalize DGoPost w q now d n L v = POST at *
  go_enter Try.func21, Try.ntmps21
  go_wp2_with fail
  refine HP.out.mono ?_
  clear HP
  rintro e w1 ⟨rfl, rfl⟩
  go_wp2_with fail
  refine HI.out.mono ?_
  clear HI
  rintro e w1 ⟨rfl, rfl⟩
  clear hlt
  generalize plV d = t at *
  have HC2 := Lib.hid (show DK (w1.setCell ⟨q, 0, none⟩ (fv t)) q t n L v from ⟨by have := H.out.blk.set_ 0 (fv t); simpa using this, H.out.sl.far (by have := H.out.ne; simpa using this) _, H.out.le⟩)
  have HO2 := Lib.hid (show GW w1 q v (w1.setCell ⟨q, 0, none⟩ (fv t)) v from ⟨(Only.refl _ _).setCell (.inl (by simp)) _, fun g hg => .inl hg⟩)
  have hsf : ∀ (a : Addr) (b : Nat) (m : Mode) (w : World), (store a (.float .f64 b) m).run Try.prog w = stored Try.prog w a (.float .f64 b) m := fun a b m w => run_store Try.prog w a _ m rfl
  go_wp2
  clear x0 x1 xf xl hsf
  go_loopw [8] (fun z wr => ∃ za zc A B v', z = .slice za A.length zc ∧ Hid (DG w1 wr q t n L v A B v' (.slice za A.length zc))) (fun z _ => L.length + 1 - sliceLen z)
  case atStart => exact ⟨none, 0, [], L, v, rfl, Lib.hid ⟨rfl, fun x hx => (by cases hx), HC2.out, HO2.out, Sl.nil _ _ _, fun g hg => (by cases hg)⟩⟩
  case round =>
    obtain ⟨za, zc, A, B, v', rfl, HG⟩ := hrel
    have x1 := HG.out.ck.blk.cell 1
    have xl := HG.out.ck.blk.lt
    simp at x1
    cases hB : B with
    | nil =>
      subst hB
      obtain ⟨sa, sc, rfl, _⟩ := HG.out.ck.sl.shape
      go_wp2
      exact HPOST.out _ _ ⟨A, [], _, _, rfl, HG.out, fun x hx => by simp at hx⟩
    | cons b B' =>
      subst hB
      obtain ⟨N, hN⟩ : ∃ N, N = (b :: B').length := ⟨_, rfl⟩
      obtain ⟨g, off, cap, rfl, _⟩ := HG.out.ck.sl.form (by simp)
      obtain ⟨y0, y1⟩ := TSl.at_ HG.out.ck.sl (show 0 < (b :: B').length by simp)
      rw [show (b :: B').getD 0 (0, 0) = b from rfl] at y0 y1
      simp only [Nat.zero_mul, Nat.add_zero] at y0 y1
      rw [← hN] at x1
      have hNz : (0 : Int) < (N : Int) := by rw [hN, List.length_cons]; omega
      have hN1 : (1 : Int) ≤ (N : Int) := by omega
      have hcz : (N : Int) ≤ (cap : Int) := by
        obtain ⟨a, c, e, hc, _⟩ := HG.out.ck.sl.shape
        injection e with _ _ e
        rw [hN]
        omega
      have HNL := Lib.hid (show N = (b :: B').length ∧ N - 1 = B'.length ∧ N = B'.length + 1 from ⟨hN, by rw [hN]; simp, by rw [hN]; simp⟩)
      have hble : b.2 ≤ 9218868437227405312 := HG.out.ck.le b (by simp)
      have h1 := ford_lt (rk_le hble).2 (rk_le HLE.out).2
      have h2 := ford_eq (rk_le hble).2 (rk_le HLE.out).2
      rw [(rk_le hble).1, (rk_le HLE.out).1] at h1 h2
      have HEQ := Lib.hid HG.out.eq
      have hml : A.length + (B'.length + 1) = L.length := by rw [HEQ.out, List.length_append]; rfl
      have HLB := Lib.hid (show A.length + 1 ≤ 1048576 ∧ B'.length ≤ 1048576 by have := HLL.out; omega)
      have HAL := Lib.hid hml
      clear hN hml
      by_cases hgo : b.2 ≤ t
      · have h3 : (FloatKind.f64.format.order b.2 t == some .lt) = true ∨ ((FloatKind.f64.format.order b.2 t == some .lt) = false ∧ (FloatKind.f64.format.order b.2 t == some .eq) = true) := by
          rcases Nat.lt_or_ge b.2 t with h | h
          · exact .inl (h1.trans (decide_eq_true (by omega)))
          · exact .inr ⟨h1.trans (decide_eq_false (by omega)), h2.trans (decide_eq_true (by omega))⟩
        have HGO := Lib.hid hgo
        clear h1 h2 hgo hble
        have HA1 := Lib.hid (HG.out.sl.alloc (.cells #[iv b.1] 3))
        have HNW := Lib.hid (sl_one3 (Blk.new wr 3 #[iv b.1]))
        rcases h3 with h1 | ⟨h1, h2⟩
        · skip
          go_wp2_with (at_builtin; refine wpList_append_sls rfl (.tmp 49) (.tmp 57) 34 rfl 3 j3 _ 1 8 Try.underlying34 si sz0 sz1 sz2 rfl (by decide) rfl HA1.out rfl HNW.out (by simp [Value.oneCell']) (by have := HLB.out; unfold maxLen; omega) (by have := HLB.out; omega) ?_)
          intro b2 w4 hS hg hat
          obtain ⟨ba, bc, hb2, _, _⟩ := hS.shape
          subst hb2
          obtain ⟨k1, k2, k3, k4⟩ := HG.out.step1 hS hg hat HGO.out
          have HK := Lib.hid k1
          have HST := Lib.hid (And.intro hS (And.intro k2 (And.intro k3 (Nat.le_trans HG.out.gw.only.size k4))))
          clear hS hg hat k1 k2 k3 k4 x1 y0 y1 xl HA1 HNW
          have x1 := HK.out.blk.cell 1
          have xl := HK.out.blk.lt
          simp at x1
          rw [← HNL.out.2.2] at x1
          have HCUT := Lib.hid (HK.out.sl.cut (k := 1) (by simp))
          by_cases hc1 : cap = 1
          all_goals
            have h5 := HCUT.out
            rw [← HNL.out.1] at h5
            simp only [hc1, Addr.add, if_true, if_false, Option.map_some, Nat.one_mul, Nat.sub_self] at h5
            have HC5 := Lib.hid h5
            clear h5
            go_wp2_with (at_builtin; refine wpList_append_sls (m := N - 1) (news := tcs B') rfl (.const (.slice none 0 0)) (.tmp 64) 39 rfl 70 j70 _ 2 16 Try.underlying39 si7 sz70 sz71 sz72 rfl (by decide) rfl (Sl.nil _ _ _) rfl HC5.out (tcs_one _) (by have := HLB.out; have := HNL.out.2.1; unfold maxLen; omega) (by have := HLB.out; have := HNL.out.2.1; omega) ?_)
            intro b5 w5 hS5 hg5 hat5
            rw [HNL.out.2.1] at hS5
            have HG5 := Lib.hid (DG.step2 HEQ.out HG.out.le HGO.out HST.out.1 HK.out HST.out.2.1 HST.out.2.2.1 HST.out.2.2.2 hS5 hg5 hat5)
            obtain ⟨a5, c5, hb5, _, _⟩ := hS5.shape
            subst hb5
            have xc5 : w5.cell? ⟨q, 1, none⟩ = some (.slice (some ⟨g, off, none⟩) N cap) := (World.cell?_of_block (a := ⟨q, 1, none⟩) (hg5.block q HK.out.blk.lt (by simp [Value.ownBlock]))).trans x1
            have xl5 : q < w5.heap.size := by have := HK.out.blk.lt; have := hg5.size; omega
            have xf5 : w5.frozen? ⟨q, 1, none⟩ = false := (World.frozen?_of_block (a := ⟨q, 1, none⟩) (hg5.block q HK.out.blk.lt (by simp [Value.ownBlock]))).trans (HK.out.blk.frozen 1)
            clear hS5 hg5 hat5
            go_wp2
            go_roundw
            case measure => have := HAL.out; simp [sliceLen]; omega
            case rel =>
              have HG6 := Lib.hid (show DG w1 _ q t n L v (A ++ [b]) B' _ (.slice ba (A ++ [b]).length bc) from by rw [List.length_append]; exact HG5.out)
              exact ⟨ba, bc, A ++ [b], B', _, by rw [List.length_append]; rfl, HG6⟩
        · skip
          go_wp2_with (at_builtin; refine wpList_append_sls rfl (.tmp 49) (.tmp 57) 34 rfl 3 j3 _ 1 8 Try.underlying34 si sz0 sz1 sz2 rfl (by decide) rfl HA1.out rfl HNW.out (by simp [Value.oneCell']) (by have := HLB.out; unfold maxLen; omega) (by have := HLB.out; omega) ?_)
          intro b2 w4 hS hg hat
          obtain ⟨ba, bc, hb2, _, _⟩ := hS.shape
          subst hb2
          obtain ⟨k1, k2, k3, k4⟩ := HG.out.step1 hS hg hat HGO.out
          have HK := Lib.hid k1
          have HST := Lib.hid (And.intro hS (And.intro k2 (And.intro k3 (Nat.le_trans HG.out.gw.only.size k4))))
          clear hS hg hat k1 k2 k3 k4 x1 y0 y1 xl HA1 HNW
          have x1 := HK.out.blk.cell 1
          have xl := HK.out.blk.lt
          simp at x1
          rw [← HNL.out.2.2] at x1
          have HCUT := Lib.hid (HK.out.sl.cut (k := 1) (by simp))
          by_cases hc1 : cap = 1
          all_goals
            have h5 := HCUT.out
            rw [← HNL.out.1] at h5
            simp only [hc1, Addr.add, if_true, if_false, Option.map_some, Nat.one_mul, Nat.sub_self] at h5
            have HC5 := Lib.hid h5
            clear h5
            go_wp2_with (at_builtin; refine wpList_append_sls (m := N - 1) (news := tcs B') rfl (.const (.slice none 0 0)) (.tmp 64) 39 rfl 70 j70 _ 2 16 Try.underlying39 si7 sz70 sz71 sz72 rfl (by decide) rfl (Sl.nil _ _ _) rfl HC5.out (tcs_one _) (by have := HLB.out; have := HNL.out.2.1; unfold maxLen; omega) (by have := HLB.out; have := HNL.out.2.1; omega) ?_)
            intro b5 w5 hS5 hg5 hat5
            rw [HNL.out.2.1] at hS5
            have HG5 := Lib.hid (DG.step2 HEQ.out HG.out.le HGO.out HST.out.1 HK.out HST.out.2.1 HST.out.2.2.1 HST.out.2.2.2 hS5 hg5 hat5)
            obtain ⟨a5, c5, hb5, _, _⟩ := hS5.shape
            subst hb5
            have xc5 : w5.cell? ⟨q, 1, none⟩ = some (.slice (some ⟨g, off, none⟩) N cap) := (World.cell?_of_block (a := ⟨q, 1, none⟩) (hg5.block q HK.out.blk.lt (by simp [Value.ownBlock]))).trans x1
            have xl5 : q < w5.heap.size := by have := HK.out.blk.lt; have := hg5.size; omega
            have xf5 : w5.frozen? ⟨q, 1, none⟩ = false := (World.frozen?_of_block (a := ⟨q, 1, none⟩) (hg5.block q HK.out.blk.lt (by simp [Value.ownBlock]))).trans (HK.out.blk.frozen 1)
            clear hS5 hg5 hat5
            go_wp2
            go_roundw
            case measure => have := HAL.out; simp [sliceLen]; omega
            case rel =>
              have HG6 := Lib.hid (show DG w1 _ q t n L v (A ++ [b]) B' _ (.slice ba (A ++ [b]).length bc) from by rw [List.length_append]; exact HG5.out)
              exact ⟨ba, bc, A ++ [b], B', _, by rw [List.length_append]; rfl, HG6⟩
      · rw [decide_eq_false (by omega)] at h1 h2
        have HGO := Lib.hid hgo
        clear hgo hble
        go_wp2
        exact HPOST.out _ _ ⟨A, b :: B', _, _, rfl, HG.out, fun x hx => by
          have : b = x := by simpa using hx
          subst this
          have := HGO.out
          omega⟩
/-- What the document's Jump answers, and leaves. -/
def DJumpPost (w : World) (q now : Nat) (n : Int) (L : List Tm) (v : Value) (e : Ending) (w' : World) : Prop :=
  if nextB L = true then ∃ A B v' z, e = .returned z ∧ DG w w' q (nextV L) n L v A B v' z ∧ ∀ x ∈ B.head?, nextV L < x.2
  else e = .returned (.slice none 0 0) ∧ w' = w
set_option maxRecDepth 100000 in
set_option maxHeartbeats 1600000 in
theorem jump23 (w : World) {q now : Nat} {n : Int} {L : List Tm} {v : Value} (h : DK w q now n L v) (hn : now < 9218868437227405312) (hge : ∀ x ∈ L, now ≤ x.2) (hlen : L.length ≤ 1048576) :
    Calls Try.prog 23 #[cp q] w (DJumpPost w q now n L v) := by
  have HT := Lib.hid (next40 w h)
  have hv : nextV L ≤ 9218868437227405312 := by
    unfold nextV
    split
    · omega
    · rename_i hh
      have hl : 0 < L.length := List.length_pos_iff.2 fun e => hh (.inl e)
      exact h.le _ (by rw [List.getD_eq_getElem?_getD, List.getElem?_eq_getElem hl]; exact List.getElem_mem hl)
  cases hb : nextB L
  · have HB := Lib.hid hb
    rw [hb] at HT
    clear h hn hge hlen hb
    go_enter Try.func23, Try.ntmps23
    go_wp2_with fail
    refine HT.out.mono ?_
    clear HT
    rintro e w1 ⟨rfl, rfl⟩
    go_wp2
    exact bodyPost_ret (results_tmp rfl _ _ _) rfl (by unfold DJumpPost; rw [HB.out, if_neg (by simp)]; exact ⟨rfl, rfl⟩)
  · have HB := Lib.hid hb
    rw [hb] at HT
    have hp : plB (nextV L) = true ∧ now ≤ plV (nextV L) ∧ plV (nextV L) ≠ 9218868437227405312 ∧ plV (nextV L) = nextV L := by
      have h1 := of_decide_eq_true hb
      have hl : 0 < L.length := List.length_pos_iff.2 fun e => h1 (.inl e)
      have hx := hge (L.getD 0 (0, 0)) (by rw [List.getD_eq_getElem?_getD, List.getElem?_eq_getElem hl]; exact List.getElem_mem hl)
      have hne : (L.getD 0 (0, 0)).2 ≠ 9218868437227405312 := fun e => h1 (.inr e)
      have hnv : nextV L = (L.getD 0 (0, 0)).2 := by unfold nextV; rw [if_neg h1]
      rw [← hnv] at hx hne
      have h2 : plB (nextV L) = true := by
        unfold plB
        exact decide_eq_true ⟨(rk_le hv).2, by rw [(rk_le hv).1]; omega⟩
      have h3 := (plB_le (x := nextV L) (by omega) h2).2
      rw [Nat.mod_eq_of_lt (by omega)] at h3
      exact ⟨h2, by omega, by omega, h3⟩
    have HPP := Lib.hid hp
    have HQ := Lib.hid (go21 w h hn (show nextV L < 18446744073709551616 by omega) hlen)
    clear h hn hge hlen hb hp hv
    go_enter Try.func23, Try.ntmps23
    go_wp2_with fail
    refine HT.out.mono ?_
    clear HT
    rintro e w1 ⟨rfl, rfl⟩
    go_wp2_with fail
    refine HQ.out.mono ?_
    intro e w2 hp
    unfold DGoPost at hp
    rw [if_pos ⟨HPP.out.1, HPP.out.2.1, HPP.out.2.2.1⟩, HPP.out.2.2.2] at hp
    obtain ⟨A, B, v', z, rfl, hg, hh⟩ := hp
    have HG := Lib.hid (And.intro hg hh)
    clear hg hh
    go_wp2
    exact bodyPost_ret (results_tmp rfl _ _ _) rfl (by unfold DJumpPost; rw [HB.out, if_pos rfl]; exact ⟨A, B, v', z, rfl, HG.out.1, HG.out.2⟩)
end Go.Proofs.Ytjnhplgdbdneiaa
