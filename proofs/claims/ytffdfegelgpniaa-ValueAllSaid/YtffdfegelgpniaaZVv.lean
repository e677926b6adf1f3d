/-
  The document's Eq of values.
-/
import Derived.Test.YtffdfegelgpniaaMf
set_option linter.unusedSimpArgs false
set_option linter.unusedVariables false
set_option linter.unusedSimpArgs false
set_option linter.unusedVariables false
namespace Go.Proofs.Ytffdfegelgpniaa
open Go.RowKit Go.Fl

def EqOk (a : V) : Prop := ∀ (w : World) (F G : Nat → Prop) (b : V) (cs ds : List Value), VIs w F a cs → VIs w G b ds → Calls Try.prog 13 #[.agg cs.toArray, .agg ds.toArray] w fun e w' => e = .returned (.bool (eqV a b)) ∧ Only [] w w'
theorem eqVs_drop {l m : List V} {n : Nat} (h1 : n < l.length) (h2 : n < m.length) : eqVs (l.drop n) (m.drop n) = (eqV l[n] m[n] && eqVs (l.drop (n + 1)) (m.drop (n + 1))) := by
  rw [List.drop_eq_getElem_cons h1, List.drop_eq_getElem_cons h2]
  rfl
set_option maxRecDepth 100000 in
set_option maxHeartbeats 3200000 in
theorem eq_step (v : V) (H : ∀ x ∈ v.kids, EqOk x) : EqOk v := by
  intro w F G b cs ds hv hb
  cases hv with
  | @mk k i r t l a cap css wk wi wr0 wt hlen hmax hcell hvs =>
  cases hb with
  | @mk k2 i2 r2 t2 l2 a2 cap2 css2 wk2 wi2 wr2 wt2 hlen2 hmax2 hcell2 hvs2 =>
  have HC := Lib.hid hcell
  have HV := Lib.hid hvs
  have HC2 := Lib.hid hcell2
  have HV2 := Lib.hid hvs2
  have HH := Lib.hid H
  clear hcell hvs hcell2 hvs2 H wk wi wr0 wt wk2 wi2 wr2 wt2
  have hlm : l.length ≤ maxLen := by omega
  have hlm2 : l2.length ≤ maxLen := by omega
  unfold maxLen at hlm hlm2
  by_cases hk : k = k2
  case neg =>
    have hz : (k != k2) = true := by rw [bne_iff_ne]; exact hk
    rw [show eqV (.mk k i r t l) (.mk k2 i2 r2 t2 l2) = false by simp [eqV, hk]]
    go_enter Try.func13, Try.ntmps13
    go_wp2
    exact bodyPost_ret (results_tmp rfl _ _ _) rfl ⟨rfl, ((Only.refl _ w).alloc _).alloc _⟩
  subst hk
  by_cases hi : i = i2
  case neg =>
    have hz : (i != i2) = true := by rw [bne_iff_ne]; exact hi
    rw [show eqV (.mk k i r t l) (.mk k i2 r2 t2 l2) = false by simp [eqV, hi]]
    go_enter Try.func13, Try.ntmps13
    go_wp2
    exact bodyPost_ret (results_tmp rfl _ _ _) rfl ⟨rfl, ((Only.refl _ w).alloc _).alloc _⟩
  subst hi
  have HBI := Lib.hid (fun (w : World) => bits_ok w r r2)
  by_cases hr : r = r2
  case neg =>
    rw [show eqV (.mk k i r t l) (.mk k i r2 t2 l2) = false by simp [eqV, hr]]
    rw [decide_eq_false hr] at HBI
    go_enter Try.func13, Try.ntmps13
    go_wp2_with fail
    refine (HBI.out _).mono ?_
    rintro e w1 ⟨rfl, rfl⟩
    go_wp2
    exact bodyPost_ret (results_tmp rfl _ _ _) rfl ⟨rfl, ((Only.refl _ w).alloc _).alloc _⟩
  subst hr
  rw [decide_eq_true (Eq.refl r)] at HBI
  by_cases ht : t.data.toList = t2.data.toList
  case neg =>
    rw [show eqV (.mk k i r t l) (.mk k i r t2 l2) = false by simp [eqV, ht]]
    have ht1 : ¬ t.toList = t2.toList := by rw [ByteArray.toList_eq, ByteArray.toList_eq]; exact ht
    have ht2 : (t.toList == t2.toList) = false := by rw [beq_eq_false_iff_ne]; exact ht1
    have ht3 : ¬ t = t2 := fun e => ht (by rw [e])
    have HT := Lib.hid ht
    clear ht
    go_enter Try.func13, Try.ntmps13
    go_wp2_with fail
    refine (HBI.out _).mono ?_
    rintro e w1 ⟨rfl, rfl⟩
    go_wp2
    exact bodyPost_ret (results_tmp rfl _ _ _) rfl ⟨rfl, ((Only.refl _ w).alloc _).alloc _⟩
  obtain rfl : t = t2 := by
    cases t with
    | mk d => cases t2 with
      | mk d2 => exact congrArg ByteArray.mk (Array.toList_inj.1 ht)
  by_cases hl : l.length = l2.length
  case neg =>
    rw [show eqV (.mk k i r t l) (.mk k i r t l2) = false by simp [eqV, hl]]
    have hz : ((l.length : Int) != (l2.length : Int)) = true := by rw [bne_iff_ne]; omega
    go_enter Try.func13, Try.ntmps13
    go_wp2_with fail
    refine (HBI.out _).mono ?_
    rintro e w1 ⟨rfl, rfl⟩
    go_wp2
    exact bodyPost_ret (results_tmp rfl _ _ _) rfl ⟨rfl, ((Only.refl _ w).alloc _).alloc _⟩
  have hz : ((l.length : Int) != (l2.length : Int)) = false := by rw [bne_eq_false_iff_eq]; omega
  have HLL := Lib.hid hl
  have HPE := Lib.hid (show eqV (.mk k i r t l) (.mk k i r t l2) = eqVs l l2 by simp [eqV, hl])
  rw [HPE.out]
  clear hl ht
  obtain ⟨w0, hw0⟩ : ∃ x : World, x = (w.alloc (.cells #[iv k, iv i, fv r, .string t, .slice a l.length cap] 33)).alloc (.cells #[iv k, iv i, fv r, .string t, .slice a2 l2.length cap2] 33) := ⟨_, rfl⟩
  have HW0 := Lib.hid hw0
  have HO0 := Lib.hid (show Only [] w w0 by rw [hw0]; exact ((Only.refl _ w).alloc _).alloc _)
  have HB1 := Lib.hid (show Blk w0 w.heap.size 33 #[iv k, iv i, fv r, .string t, .slice a l.length cap] by rw [hw0]; exact (Blk.new _ _ _).alloc _)
  have HB2 := Lib.hid (show Blk w0 (w.heap.size + 1) 33 #[iv k, iv i, fv r, .string t, .slice a2 l2.length cap2] by rw [hw0]; have := Blk.new (w.alloc (.cells #[iv k, iv i, fv r, .string t, .slice a l.length cap] 33)) 33 #[iv k, iv i, fv r, .string t, .slice a2 l2.length cap2]; simpa using this)
  clear hw0
  go_enter Try.func13, Try.ntmps13
  go_wp2_with fail
  refine (HBI.out _).mono ?_
  rintro e w1 ⟨rfl, rfl⟩
  go_wp2
  rw [← HW0.out]
  go_loopw [5] (fun z wr => ∃ n : Nat, n ≤ l.length ∧ z = .int .i64 n ∧ Hid (eqVs l l2 = eqVs (l.drop n) (l2.drop n)) ∧ Hid (Only [] w0 wr)) (fun z _ => l.length - (intOf z).toNat)
  case atStart => exact ⟨0, Nat.zero_le _, rfl, Lib.hid rfl, Lib.hid (Only.refl _ _)⟩
  case round =>
    obtain ⟨n, hn, rfl, HE, HO⟩ := hrel
    have y4 := (HB1.out.only HO.out (by simp)).cell 4
    have z4 := (HB2.out.only HO.out (by simp)).cell 4
    simp at y4 z4
    by_cases hnl : n < l.length
    · have hnz : (n : Int) < (l.length : Int) := by omega
      have hn2 : n < l2.length := by have := HLL.out; omega
      have hnz2 : (n : Int) < (l2.length : Int) := by omega
      obtain ⟨g, off, rfl, hg, hFg, hcc⟩ := HC.out (by omega)
      obtain ⟨g2, off2, rfl, hg2, hFg2, hcc2⟩ := HC2.out (by omega)
      have hv := HV.out n hnl
      have hv2 := HV2.out n hn2
      obtain ⟨c0, c1, c2, c3, c4, c5, c6, hcs⟩ := hv.five
      obtain ⟨d0, d1, d2, d3, d4, d5, d6, hds⟩ := hv2.five
      have hx : ∀ c u, (css n)[c]? = some u → wr.cell? ⟨g, off + n * 5 + c, none⟩ = some u := fun c u hu => ((HO0.out.trans HO.out).cell (p := ⟨g, off + n * 5 + c, none⟩) hg (by simp)).trans (hcc n c u hnl hu)
      have hx2 : ∀ c u, (css2 n)[c]? = some u → wr.cell? ⟨g2, off2 + n * 5 + c, none⟩ = some u := fun c u hu => ((HO0.out.trans HO.out).cell (p := ⟨g2, off2 + n * 5 + c, none⟩) hg2 (by simp)).trans (hcc2 n c u hn2 hu)
      have x0 := hx 0 (iv c0) (by rw [hcs]; rfl)
      have x1 := hx 1 (iv c1) (by rw [hcs]; rfl)
      have x2 := hx 2 (fv c2) (by rw [hcs]; rfl)
      have x3 := hx 3 (.string c3) (by rw [hcs]; rfl)
      have x4 := hx 4 (.slice c4 c5 c6) (by rw [hcs]; rfl)
      have w0' := hx2 0 (iv d0) (by rw [hds]; rfl)
      have w1' := hx2 1 (iv d1) (by rw [hds]; rfl)
      have w2' := hx2 2 (fv d2) (by rw [hds]; rfl)
      have w3' := hx2 3 (.string d3) (by rw [hds]; rfl)
      have w4' := hx2 4 (.slice d4 d5 d6) (by rw [hds]; rfl)
      rw [Nat.add_zero] at x0 w0'
      have HT := Lib.hid (HH.out _ (List.getElem_mem hnl) wr.drew F G l2[n] (css n) (css2 n) (hv.only0 (HO0.out.trans HO.out.drew)) (hv2.only0 (HO0.out.trans HO.out.drew)))
      rw [hcs, hds] at HT
      have HS := Lib.hid (eqVs_drop hnl hn2)
      clear hx hx2 hcc hcc2 HC HC2 hv hv2 hcs hds
      generalize eqV l[n] l2[n] = q at *
      go_wp2
      refine Lex.wp_region_text (by kernel_rfl) (by kernel_rfl) ?_
      go_wp2_with fail
      refine HT.out.mono ?_
      clear HT
      rintro e w2 ⟨rfl, ho2⟩
      have HO2 := Lib.hid ((HO.out.drew).trans ho2)
      clear ho2
      cases q with
      | true =>
        have HN := Lib.hid (show eqVs l l2 = eqVs (l.drop (n + 1)) (l2.drop (n + 1)) by rw [HE.out, HS.out]; rfl)
        go_wp2
        refine Lex.sq_done (by rfl) ?_
        go_wp2
        go_roundw
        case measure => simp [intOf]; omega
        case rel => exact ⟨n + 1, by omega, by go_num, HN, HO2⟩
      | false =>
        have HN := Lib.hid (show eqVs l l2 = false by rw [HE.out, HS.out]; rfl)
        go_wp2
        refine Lex.sq_done (by rfl) ?_
        go_wp2
        refine bodyPost_ret (results_tmp rfl _ _ _) rfl ⟨?_, HO0.out.trans HO2.out⟩
        exact congrArg (fun z => Ending.returned (.bool z)) HN.out.symm
    · obtain rfl : n = l.length := by omega
      have HN := Lib.hid (show eqVs l l2 = true by rw [HE.out, List.drop_length]; rfl)
      clear HC HC2
      go_wp2
      refine bodyPost_ret (results_tmp rfl _ _ _) rfl ⟨?_, HO0.out.trans HO.out⟩
      exact congrArg (fun z => Ending.returned (.bool z)) HN.out.symm
theorem eq_ok (v : V) : EqOk v := by
  refine V.rec (motive_1 := EqOk) (motive_2 := fun l => ∀ x ∈ l, EqOk x) ?_ ?_ ?_ v
  · intro k i r t l ih
    exact eq_step _ ih
  · intro x hx; cases hx
  · intro a l ha hl x hx
    rcases List.mem_cons.1 hx with rfl | hx
    · exact ha
    · exact hl x hx
end Go.Proofs.Ytffdfegelgpniaa
