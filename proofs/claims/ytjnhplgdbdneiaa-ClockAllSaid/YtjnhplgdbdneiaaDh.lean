/-
  Clock: the heap's Push, Pop, Remove.
-/
import Derived.Test.YtjnhplgdbdneiaaDg
set_option linter.unusedSimpArgs false
set_option linter.unusedVariables false
namespace Go.Proofs.Ytjnhplgdbdneiaa
open Go.RowKit Go.Fl

set_option maxRecDepth 100000 in
theorem len85 (w : World) (a : Option Addr) (n cap : Nat) : Calls Try.prog 85 #[.slice a n cap] w fun e w' => e = .returned (iv n) ∧ w' = w := by
  go_enter Try.func85, Try.ntmps85
  go_wp2
  exact bodyPost_ret (results_tmp rfl _ _ _) rfl ⟨rfl, rfl⟩
set_option maxRecDepth 100000 in
set_option maxHeartbeats 1600000 in
theorem push29 (w : World) {r now : Nat} {last : Int} {l : List Tm} {s : Value} (h : CK w r now last l s) (x : Tm) (hx : x.2 ≤ 9218868437227405312) (hl : l.length ≤ 1048576) :
    Calls Try.prog 29 #[hpI r, .iface 70 (.agg #[iv x.1, fv x.2])] w fun e w' => e = .returned (.tuple #[]) ∧ ∃ s', CK w' r now last (hpush l x) s' ∧ GW w r s w' s' := by
  have HQ := Lib.hid (push89 w h x hx hl)
  have HL := Lib.hid hl
  have hm := m_Push w r
  clear h hx hl
  go_enter Try.func29, Try.ntmps29
  go_wp2_with fail
  refine HQ.out.mono ?_
  clear HQ hm
  rintro e w1 ⟨rfl, s1, hc, hg⟩
  have HG := Lib.hid hg
  have hlen : (l ++ [x]).length = l.length + 1 := by simp
  obtain ⟨g, off, cap, hs, _⟩ := (hc.sl' hlen).form (by omega)
  subst hs
  have HC := Lib.hid hc
  have HN := Lib.hid hlen
  clear hlen hg
  have x0 := hc.blk.cell 3
  simp at x0
  clear hc
  have hm := m_Len x0
  have HQ := Lib.hid (len85 w1 (some ⟨g, off, none⟩) (l.length + 1) cap)
  obtain ⟨n, hn⟩ : ∃ n, n = l.length + 1 := ⟨_, rfl⟩
  rw [← hn] at hm HQ x0 HC HG HN
  have e1 : wrap64 ((n : Int) - 1) = ((l.length : Nat) : Int) := by have := HL.out; unfold wrap64; omega
  have HNL := Lib.hid hn
  clear hn
  go_wp2_with fail
  refine HQ.out.mono ?_
  clear HQ hm x0
  rintro e w2 ⟨rfl, rfl⟩
  have HQ := Lib.hid (up42 w2 HC.out HN.out (j := l.length) (by have := HNL.out; omega) (by have := HNL.out; have := HL.out; omega))
  go_wp2_with fail
  refine HQ.out.mono ?_
  clear HQ
  rintro e w3 ⟨rfl, hc, ho⟩
  have HC3 := Lib.hid hc
  have HO := Lib.hid ho
  clear hc ho e1
  go_wp2
  refine bodyPost_end (results_none rfl _ _ _) rfl ⟨rfl, _, HC3.out, HG.out.trans ⟨HO.out.mono (by simp [Value.ownBlock]), fun g hg => .inl hg⟩⟩
set_option maxRecDepth 100000 in
set_option maxHeartbeats 1600000 in
theorem pop88 (w : World) {r now : Nat} {last : Int} {l : List Tm} {g off cap N n : Nat} (h : CK w r now last l (.slice (some ⟨g, off, none⟩) N cap)) (hn : l.length = N) (hNn : N = n + 1) (hmx : n ≤ 1048577) :
    Calls Try.prog 88 #[.pointer (some ⟨r, 3, none⟩)] w fun e w' => e = .returned (.iface 70 (.agg #[iv (l.getD n (0, 0)).1, fv (l.getD n (0, 0)).2])) ∧ CK w' r now last (l.take n) (.slice (some ⟨g, off, none⟩) n cap) ∧ Only [r] w w' := by
  obtain ⟨y0, y1⟩ := TSl.at_ (h.sl' hn) (show n < l.length by omega)
  generalize l.getD n (0, 0) = x at *
  have x0 := h.blk.cell 3
  have xf := h.blk.frozen 3
  have xl := h.blk.lt
  simp at x0
  have H := Lib.hid h
  have HN := Lib.hid hn
  have e1 : wrap64 ((N : Int) - 1) = (n : Int) := by unfold wrap64; omega
  have hnN : (n : Int) < (N : Int) := by omega
  have hNN := Lib.hid hNn
  have hncap : (n : Int) ≤ (cap : Int) := by
    obtain ⟨a, c, e, hc, _⟩ := (h.sl' hn).shape
    injection e with _ _ e
    omega
  have hnz : (N : Int) ≤ (cap : Int) := by
    obtain ⟨a, c, e, hc, _⟩ := (h.sl' hn).shape
    injection e with _ _ e
    omega
  have HG := Lib.hid ((h.sl' hn).lt g rfl)
  clear h hn hmx hNn
  go_enter Try.func88, Try.ntmps88
  go_wp2_with (refine wpList_store_blk rfl 70 (.tmp 4) (.tmp 15) rfl [iv x.1, fv x.2] rfl rfl (Blk.new _ _ _) (by kernel_rfl) (by simp) (by simp [Value.oneCell']) ?_)
  intro w1 hB1 hO1
  have ho : Only [] w w1 := ((Only.refl [] w).alloc _).trans' hO1 (fun i hi => .inr (by simp at hi; omega))
  have HC1 := Lib.hid (H.out.only0 ho)
  have HB1 := Lib.hid (show Blk w1 w.heap.size 70 #[iv x.1, fv x.2] from hB1)
  have HO1 := Lib.hid ho
  clear hB1 hO1 ho x0 xf xl y0 y1
  have x0 := HC1.out.blk.cell 3
  have xf := HC1.out.blk.frozen 3
  have xl := HC1.out.blk.lt
  simp at x0
  have z0 := (HB1.out.far (p := ⟨r, 3, none⟩) (show w.heap.size ≠ r from Nat.ne_of_gt H.out.blk.lt) (.slice (some ⟨g, off, none⟩) n cap)).cell 0
  have z1 := (HB1.out.far (p := ⟨r, 3, none⟩) (show w.heap.size ≠ r from Nat.ne_of_gt H.out.blk.lt) (.slice (some ⟨g, off, none⟩) n cap)).cell 1
  simp at z0 z1
  go_wp2
  refine bodyPost_ret (results_tmp rfl _ _ _) rfl ⟨rfl, ⟨?_, ?_, fun y hy => H.out.le y (List.mem_of_mem_take hy)⟩, (HO1.out.mono (by simp)).setCell (.inl (by simp)) _⟩
  · have := HC1.out.blk.set_ 3 (.slice (some ⟨g, off, none⟩) n cap)
    simpa using this
  · have hl : (l.take n).length = n := by rw [List.length_take, HN.out, hNN.out]; omega
    rw [hl, tcs_take]
    have hne := HC1.out.ne
    exact ((HC1.out.sl' HN.out).front (k := n) (cap2 := cap) (by rw [hNN.out]; omega) (by omega) (Nat.le_refl _)).far (by simpa [Value.ownBlock] using hne) _
set_option maxRecDepth 100000 in
set_option maxHeartbeats 1600000 in
theorem pop31 (w : World) {r now : Nat} {last : Int} {l : List Tm} {g off cap N n : Nat} (h : CK w r now last l (.slice (some ⟨g, off, none⟩) N cap)) (hN : l.length = N) (hNn : N = n + 1) (hmx : n ≤ 1048576) :
    Calls Try.prog 31 #[hpI r] w fun e w' => (∃ v, e = .returned v) ∧ CK w' r now last ((hrot0 l).take (l.length - 1)) (.slice (some ⟨g, off, none⟩) n cap) ∧ Only [r, g] w w' := by
  have H := Lib.hid h
  have HN := Lib.hid hN
  have HNN := Lib.hid hNn
  have HMX := Lib.hid (show n ≤ 1048576 by omega)
  have x0 := h.blk.cell 3
  simp at x0
  have e1 : wrap64 ((N : Int) - 1) = (n : Int) := by unfold wrap64; omega
  have hm := m_Len x0
  have HQ := Lib.hid (len85 w (some ⟨g, off, none⟩) N cap)
  clear h hN hNn hmx
  go_enter Try.func31, Try.ntmps31
  go_wp2_with fail
  refine HQ.out.mono ?_
  clear HQ hm
  rintro e w2 ⟨rfl, rfl⟩
  have hm := m_Swap x0
  have HQ := Lib.hid (swap87 w2 (H.out.sl' HN.out) HN.out (i := 0) (j := n) (by rw [HNN.out]; omega) (by rw [HNN.out]; omega))
  go_wp2_with fail
  refine HQ.out.mono ?_
  clear HQ hm x0
  rintro e w3 ⟨rfl, hS, ho⟩
  have HC3 := Lib.hid (H.out.swap HN.out (by rw [HNN.out]; omega) (by rw [HNN.out]; omega) hS ho)
  have HO3 := Lib.hid ho
  clear hS ho
  have HL3 := Lib.hid (show (swp l 0 n).length = N by rw [swp_len, HN.out])
  have HQ := Lib.hid (down44 w3 HC3.out HL3.out (i := 0) (n := n) (by omega) (by rw [HNN.out]; omega) (by rw [HNN.out]; have := HMX.out; omega))
  go_wp2_with fail
  refine HQ.out.mono ?_
  clear HQ
  rintro e w4 ⟨rfl, hc, ho⟩
  have HC := Lib.hid hc
  have HO := Lib.hid ((HO3.out.trans ho).mono (T := [r, g]) (by simp))
  have HCL := Lib.hid (show (hdn (swp l 0 n) 0 n).1.length = N by rw [hdn_len _ _ _ _ rfl]; exact HL3.out)
  clear hc ho HC3 HO3
  obtain ⟨ww, hww⟩ : ∃ x : World, x = w4 := ⟨_, rfl⟩
  subst hww
  have x0 := HC.out.blk.cell 3
  simp at x0
  have hm := m_Pop ww r
  have HQ := Lib.hid (pop88 ww HC.out HCL.out HNN.out (Nat.le_succ_of_le HMX.out))
  go_wp2_with fail
  refine HQ.out.mono ?_
  clear HQ hm x0
  rintro e w5 ⟨rfl, hc, ho⟩
  have HC5 := Lib.hid hc
  have HO5 := Lib.hid (HO.out.trans (ho.mono (by simp)))
  clear hc ho HC HO
  go_wp2
  refine bodyPost_ret (results_tmp rfl _ _ _) rfl ⟨⟨_, rfl⟩, ?_, HO5.out⟩
  (have e : l.length - 1 = n := (by rw [HN.out, HNN.out]; omega); unfold hrot0; rw [e]; exact HC5.out)
set_option maxRecDepth 100000 in
set_option maxHeartbeats 1600000 in
theorem remove39 (w : World) {r now : Nat} {last : Int} {l : List Tm} {g off cap N n i : Nat} (h : CK w r now last l (.slice (some ⟨g, off, none⟩) N cap)) (hN : l.length = N) (hNn : N = n + 1) (hmx : n ≤ 1048576) (hi : i < N) :
    Calls Try.prog 39 #[hpI r, iv i] w fun e w' => (∃ v, e = .returned v) ∧ CK w' r now last ((hrot l i).take (l.length - 1)) (.slice (some ⟨g, off, none⟩) n cap) ∧ Only [r, g] w w' := by
  have H := Lib.hid h
  have HN := Lib.hid hN
  have HNN := Lib.hid hNn
  have HI := Lib.hid hi
  have HMX := Lib.hid (show n ≤ 1048576 by omega)
  have e0 : l.length - 1 = n := by omega
  have HE0 := Lib.hid e0
  have x0 := h.blk.cell 3
  simp at x0
  have e1 : wrap64 ((N : Int) - 1) = (n : Int) := by unfold wrap64; omega
  have hm := m_Len x0
  have HQ := Lib.hid (len85 w (some ⟨g, off, none⟩) N cap)
  clear h hN hNn hmx hi e0
  go_enter Try.func39, Try.ntmps39
  go_wp2_with fail
  refine HQ.out.mono ?_
  clear HQ hm
  rintro e w2 ⟨rfl, rfl⟩
  by_cases hni : n = i
  · subst hni
    clear x0
    have HC := H
    have HO := Lib.hid (Only.refl [r, g] w2)
    have HCL := HN
    obtain ⟨ww, hww⟩ : ∃ x : World, x = w2 := ⟨_, rfl⟩
    subst hww
    have x0 := HC.out.blk.cell 3
    simp at x0
    have hm := m_Pop ww r
    have HQ := Lib.hid (pop88 ww HC.out HCL.out HNN.out (Nat.le_succ_of_le HMX.out))
    go_wp2_with fail
    refine HQ.out.mono ?_
    clear HQ hm x0
    rintro e w5 ⟨rfl, hc, ho⟩
    have HC5 := Lib.hid hc
    have HO5 := Lib.hid (HO.out.trans (ho.mono (by simp)))
    clear hc ho HC HO
    go_wp2
    refine bodyPost_ret (results_tmp rfl _ _ _) rfl ⟨⟨_, rfl⟩, ?_, HO5.out⟩
    (unfold hrot; rw [HE0.out, if_neg (by simp)]; exact HC5.out)
  have e2 : ((n : Int) == (i : Int)) = false := by rw [beq_eq_false_iff_ne]; omega
  have HNI := Lib.hid hni
  clear hni
  have hm := m_Swap x0
  have HQ := Lib.hid (swap87 w2 (H.out.sl' HN.out) HN.out (i := i) (j := n) HI.out (by rw [HNN.out]; omega))
  go_wp2_with fail
  refine HQ.out.mono ?_
  clear HQ hm x0
  rintro e w3 ⟨rfl, hS, ho⟩
  have HC3 := Lib.hid (H.out.swap HN.out HI.out (by rw [HNN.out]; omega) hS ho)
  have HO3 := Lib.hid ho
  clear hS ho
  have HL3 := Lib.hid (show (swp l i n).length = N by rw [swp_len, HN.out])
  have HQ := Lib.hid (down44 w3 HC3.out HL3.out (i := i) (n := n) (by have := HI.out; omega) (by rw [HNN.out]; omega) (by rw [HNN.out]; have := HMX.out; omega))
  go_wp2_with fail
  refine HQ.out.mono ?_
  clear HQ
  rintro e w4 ⟨rfl, hc, ho⟩
  have HC4 := Lib.hid hc
  have HO4 := Lib.hid (HO3.out.trans ho)
  have HCL4 := Lib.hid (show (hdn (swp l i n) i n).1.length = N by rw [hdn_len _ _ _ _ rfl]; exact HL3.out)
  clear hc ho HC3 HO3
  by_cases hmv : i < (hdn (swp l i n) i n).2
  · rw [decide_eq_true hmv]
    have HMV := Lib.hid hmv
    clear hmv
    have HC := HC4
    have HO := Lib.hid (HO4.out.mono (T := [r, g]) (by simp))
    have HCL := HCL4
    obtain ⟨ww, hww⟩ : ∃ x : World, x = w4 := ⟨_, rfl⟩
    subst hww
    have x0 := HC.out.blk.cell 3
    simp at x0
    have hm := m_Pop ww r
    have HQ := Lib.hid (pop88 ww HC.out HCL.out HNN.out (Nat.le_succ_of_le HMX.out))
    go_wp2_with fail
    refine HQ.out.mono ?_
    clear HQ hm x0
    rintro e w5 ⟨rfl, hc, ho⟩
    have HC5 := Lib.hid hc
    have HO5 := Lib.hid (HO.out.trans (ho.mono (by simp)))
    clear hc ho HC HO
    go_wp2
    refine bodyPost_ret (results_tmp rfl _ _ _) rfl ⟨⟨_, rfl⟩, ?_, HO5.out⟩
    (unfold hrot; rw [HE0.out, if_pos HNI.out, if_pos HMV.out]; exact HC5.out)
  · rw [decide_eq_false hmv]
    have HMV := Lib.hid hmv
    clear hmv
    have HQ := Lib.hid (up42 w4 HC4.out HCL4.out (j := i) HI.out (by rw [HNN.out]; have := HMX.out; omega))
    go_wp2_with fail
    refine HQ.out.mono ?_
    clear HQ
    rintro e w5 ⟨rfl, hc, ho⟩
    have HC := Lib.hid hc
    have HO := Lib.hid ((HO4.out.trans ho).mono (T := [r, g]) (by simp))
    have HCL := Lib.hid (show (hup (hdn (swp l i n) i n).1 i).length = N by rw [hup_len]; exact HCL4.out)
    clear hc ho HC4 HO4
    obtain ⟨ww, hww⟩ : ∃ x : World, x = w5 := ⟨_, rfl⟩
    subst hww
    have x0 := HC.out.blk.cell 3
    simp at x0
    have hm := m_Pop ww r
    have HQ := Lib.hid (pop88 ww HC.out HCL.out HNN.out (Nat.le_succ_of_le HMX.out))
    go_wp2_with fail
    refine HQ.out.mono ?_
    clear HQ hm x0
    rintro e w5 ⟨rfl, hc, ho⟩
    have HC5 := Lib.hid hc
    have HO5 := Lib.hid (HO.out.trans (ho.mono (by simp)))
    clear hc ho HC HO
    go_wp2
    refine bodyPost_ret (results_tmp rfl _ _ _) rfl ⟨⟨_, rfl⟩, ?_, HO5.out⟩
    (unfold hrot; rw [HE0.out, if_pos HNI.out, if_neg HMV.out]; exact HC5.out)
end Go.Proofs.Ytjnhplgdbdneiaa
