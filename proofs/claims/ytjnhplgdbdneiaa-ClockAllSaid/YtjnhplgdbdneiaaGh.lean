/-
  ClockAll: the walk.
-/
import Derived.Test.YtjnhplgdbdneiaaGg
set_option linter.unusedSimpArgs false
set_option linter.unusedVariables false
namespace Go.Proofs.Ytjnhplgdbdneiaa
open Go.RowKit Go.Fl

/-- Both clocks behind some calls. -/
structure AA (w wr : World) (r q now n : Nat) (l L : List Tm) (s v : Value) : Prop where
  pp : PD w wr r now n l s q now n L v
  ll : LL now n l L
theorem AA.only0 {w wr w3 : World} {r q now n : Nat} {l L : List Tm} {s v : Value} (h : AA w wr r q now n l L s v) (ho : Only [] wr w3) : AA w w3 r q now n l L s v := ⟨h.pp.only0 ho, h.ll⟩
theorem AA.len {w wr : World} {r q now n : Nat} {l L : List Tm} {s v : Value} (h : AA w wr r q now n l L s v) : l.length ≤ 1048576 ∧ L.length ≤ 1048576 := by
  have h1 := h.ll.rel.len
  have h2 := h.ll.len
  omega
/-- Cancel, where the number is set. -/
theorem canF {w wr : World} {r q now n : Nat} {l L : List Tm} {s v : Value} (id : Int) (h : AA w wr r q now n l L s v) (hf : ∃ y ∈ L, y.1 = id) :
    Calls Try.prog 19 #[cp r, iv id] wr fun e w' => e = .returned (iv 0) ∧ ∃ l' s', PD w w' r now n l' s' q now n L v ∧ ∀ j, j < L.length → (L.getD j (0, 0)).1 = id → LL now n l' (L.eraseIdx j) :=
  (cancel19 wr id h.pp.ca h.len.1).mono fun e w' hp => by
    rcases hp with ⟨i, hi, hid, he, s', hc, hg⟩ | ⟨hno, _⟩
    · exact ⟨he, _, s', h.pp.left hc hg, fun j hj hjj => h.ll.cancel hi hid hj hjj⟩
    · obtain ⟨y, hy, e⟩ := hf
      exact absurd e (hno y (h.ll.rel.perm.mem_iff.2 hy))
theorem canD {w wr : World} {r q now n : Nat} {l L : List Tm} {s v : Value} (id : Int) (h : PD w wr r now n l s q now n L v) (hlen : L.length ≤ 1048576) (hf : ∃ y ∈ L, y.1 = id) :
    Calls Try.prog 20 #[cp q, iv id] wr fun e w' => e = .returned (iv 0) ∧ ∃ j v', j < L.length ∧ (L.getD j (0, 0)).1 = id ∧ PD w w' r now n l s q now n (L.eraseIdx j) v' :=
  (cancel20 wr id h.cb hlen).mono fun e w' hp => by
    rcases hp with ⟨i, hi, hid, he, v', hc, hg⟩ | ⟨hno, _⟩
    · exact ⟨he, i, v', hi, hid, h.right hc hg⟩
    · obtain ⟨y, hy, e⟩ := hf
      exact absurd e (hno y hy)
theorem canF0 {w wr : World} {r q now n : Nat} {l L : List Tm} {s v : Value} (id : Int) (h : AA w wr r q now n l L s v) (hf : ¬ ∃ y ∈ L, y.1 = id) :
    Calls Try.prog 19 #[cp r, iv id] wr fun e w' => e = .returned (iv 6) ∧ AA w w' r q now n l L s v :=
  (cancel19 wr id h.pp.ca h.len.1).mono fun e w' hp => by
    rcases hp with ⟨i, hi, hid, he, s', hc, hg⟩ | ⟨_, he, ho⟩
    · exact absurd ⟨_, h.ll.rel.perm.mem_iff.1 (by rw [getD_getElem hi]; exact List.getElem_mem hi), hid⟩ hf
    · exact ⟨he, h.only0 ho⟩
theorem canD0 {w wr : World} {r q now n : Nat} {l L : List Tm} {s v : Value} (id : Int) (h : AA w wr r q now n l L s v) (hf : ¬ ∃ y ∈ L, y.1 = id) :
    Calls Try.prog 20 #[cp q, iv id] wr fun e w' => e = .returned (iv 6) ∧ AA w w' r q now n l L s v :=
  (cancel20 wr id h.pp.cb h.len.2).mono fun e w' hp => by
    rcases hp with ⟨i, hi, hid, he, v', hc, hg⟩ | ⟨_, he, rfl⟩
    · exact absurd ⟨_, by rw [getD_getElem hi]; exact List.getElem_mem hi, hid⟩ hf
    · exact ⟨he, h⟩
set_option maxRecDepth 1000000 in
set_option maxHeartbeats 12800000 in
theorem all5 (w : World) (u : Int) (hu : 0 ≤ u ∧ u < 18446744073709551616) {v0 : Value} {N : Nat} {f : Nat → Nat → Int} (h : RecsK w [.i64, .u64, .i64] v0 N f) :
    Calls Try.prog 5 #[.int .u64 u, v0] w fun e w' => e = .returned (.bool true) ∧ Only [] w w' := by
  obtain ⟨a0, cap0, rfl, hnc0, hcm0⟩ := h.shape
  have HREC := Lib.hid h
  obtain ⟨x0, hx0⟩ : ∃ x, u.toNat = x := ⟨_, rfl⟩
  have HXL := Lib.hid (show x0 < 18446744073709551616 by omega)
  have ex : ∀ w : World, (callFunc 10 #[.int .u64 u]).run Try.prog w = .ok (.value (.float .f64 x0)) w := fun w => by rw [e10, hx0]
  have HQ := Lib.hid (begun7 w)
  clear h hu hx0 hnc0 hcm0
  go_enter Try.func5, Try.ntmps5
  go_wp2_with fail
  refine HQ.out.mono ?_
  clear HQ
  rintro e w1 ⟨rfl, ho⟩
  have HO1 := Lib.hid ho
  clear ho
  have HQ := Lib.hid (new8 w1 x0 HXL.out)
  go_wp2_with fail
  refine HQ.out.mono ?_
  clear HQ
  rintro e w2 (⟨hok, rfl, hc, ho⟩ | ⟨hn, rfl, rfl⟩)
  case inr =>
    have HN := Lib.hid hn
    have HQ := Lib.hid (new17 w2 x0 HXL.out)
    clear hn
    go_wp2_with fail
    refine HQ.out.mono ?_
    clear HQ
    rintro e w3 (⟨hok, rfl, hc, ho⟩ | ⟨hn, rfl, rfl⟩)
    · exact absurd hok HN.out
    clear hn ex
    go_wp2
    exact bodyPost_ret (results_tmp rfl _ _ _) rfl ⟨rfl, HO1.out⟩
  have HOK := Lib.hid hok
  have HC := Lib.hid hc
  have HO2 := Lib.hid ho
  clear hok hc ho
  have HQ := Lib.hid (new17 w2 x0 HXL.out)
  go_wp2_with fail
  refine HQ.out.mono ?_
  clear HQ
  rintro e w3 (⟨hok, rfl, hc, ho⟩ | ⟨hn, rfl, rfl⟩)
  case inr => exact absurd HOK.out hn
  have HA0 := Lib.hid (show AA w w3 w1.heap.size w2.heap.size (plV x0) 0 [] [] (.slice none 0 0) (.slice none 0 0) from
    ⟨⟨HC.out.only0 ho, hc, fun g hg => (by cases hg), HO1.out.size, Nat.le_trans HO1.out.size HO2.out.size, fun g hg => (by cases hg), fun g hg => (by cases hg), (HO1.out.trans HO2.out).trans ho⟩, LL.nil (Nat.lt_of_le_of_ne (plB_le HXL.out HOK.out.1).1 HOK.out.2)⟩)
  clear hok hc ho HC HO1 HO2 ex
  generalize w1.heap.size = r at *
  generalize w2.heap.size = q at *
  generalize plV x0 = now0 at *
  clear HOK
  go_wp2
  go_loopw [9] (fun z wr => ∃ (k now n : Nat) (l L : List Tm) (s v : Value), z = .int .i64 k ∧ Hid (k ≤ N ∧ k ≤ 400 ∧ n ≤ k) ∧ Hid (AA w wr r q now n l L s v)) (fun z _ => 400 - (intOf z).toNat)
  case atStart => exact ⟨0, now0, 0, [], [], _, _, rfl, Lib.hid ⟨Nat.zero_le _, Nat.zero_le _, Nat.le_refl _⟩, HA0⟩
  case round =>
    obtain ⟨k, now, n, l, L, s, v, rfl, HK, HI⟩ := hrel
    clear HA0
    by_cases hkl : k < N ∧ k < 400
    case neg =>
      have hcs : (¬ (k : Int) < (N : Int)) ∨ ((k : Int) < (N : Int) ∧ ¬ (k : Int) < 400) := by omega
      clear hkl
      rcases hcs with hcs | ⟨hcs, hcs2⟩
      · go_wp2
        exact bodyPost_ret (results_tmp rfl _ _ _) rfl ⟨rfl, HI.out.pp.only⟩
      · go_wp2
        exact bodyPost_ret (results_tmp rfl _ _ _) rfl ⟨rfl, HI.out.pp.only⟩
    have hkz : (k : Int) < (N : Int) := by omega
    have hkz2 : (k : Int) < 400 := by omega
    have HNK := Lib.hid (show k + 1 ≤ N ∧ k + 1 ≤ 400 ∧ 400 - (k + 1) < 400 - k by omega)
    have HNB := Lib.hid (show n ≤ k + 1 ∧ n + 1 ≤ k + 1 by have := HK.out; omega)
    have HNR := Lib.hid (show 0 ≤ (n : Int) ∧ (n : Int) < 4611686018427387904 by have := HK.out; omega)
    have e2 := wrap_sm (n := 400) (by decide) hkl.2
    obtain ⟨g, off, cap', he, hcl, hcells0⟩ := HREC.out.at_ hkl.1
    have hcells : ∀ (j : Nat) (kd : IntKind), [IntKind.i64, .u64, .i64][j]? = some kd → (∀ wr : World, Only [] w wr → wr.cell? ⟨g, off + (k * 3 + j), none⟩ = some (.int kd (f k j))) ∧ (Lit.int kd (f k j)).wf = true := fun j kd hj => ⟨fun wr ho => (ho.cell (p := ⟨g, off + (k * 3 + j), none⟩) (cell_lt (hcells0 j kd hj).1) (by simp)).trans (hcells0 j kd hj).1, (hcells0 j kd hj).2⟩
    clear hcells0
    injection he with he _ he2
    subst he
    subst he2
    obtain ⟨y0, _⟩ := hcells 0 .i64 rfl
    obtain ⟨y1, hwf⟩ := hcells 1 .u64 rfl
    obtain ⟨y2, _⟩ := hcells 2 .i64 rfl
    have HY2 := Lib.hid y2
    have y0 := y0 wr HI.out.pp.only
    have y1 := y1 wr HI.out.pp.only
    have y2 := y2 wr HI.out.pp.only
    rw [Nat.add_zero] at y0
    rw [← Nat.add_assoc] at y1 y2 HY2
    have hxr : 0 ≤ f k 1 ∧ f k 1 < 18446744073709551616 := by
      simp only [Lit.wf, IntKind.min, IntKind.max, IntKind.bits, IntKind.signed] at hwf
      simp at hwf
      omega
    generalize f k 0 = kd at *
    generalize f k 1 = xi at *
    generalize f k 2 = id at *
    obtain ⟨x, hx⟩ : ∃ x, xi.toNat = x := ⟨_, rfl⟩
    have HX := Lib.hid (show x < 18446744073709551616 by omega)
    have ex : ∀ w : World, (callFunc 10 #[.int .u64 xi]).run Try.prog w = .ok (.value (.float .f64 x)) w := fun w => by rw [e10, hx]
    clear hkl hcells hwf hxr hx hcl
    by_cases h1 : kd = 1
    · subst h1
      have HQ := Lib.hid (after9 wr (d := x) HI.out.pp.ca HI.out.ll.fin HX.out HNR.out)
      go_wp2_with fail
      refine HQ.out.mono ?_
      clear HQ
      intro e w3 hp
      unfold AfterPost at hp
      cases hb : plB x
      · rw [hb, if_neg (by simp)] at hp
        have HB := Lib.hid hb
        obtain ⟨rfl, rfl⟩ := hp
        clear hb
        have HQ := Lib.hid (after18 w3 (d := x) HI.out.pp.cb HI.out.ll.fin HX.out HNR.out HI.out.ll.len)
        go_wp2_with fail
        refine HQ.out.mono ?_
        clear HQ
        intro e w4 hp
        unfold DAfterPost at hp
        rw [HB.out, if_neg (by simp)] at hp
        obtain ⟨rfl, rfl⟩ := hp
        have HQ := Lib.hid (same24 w4 HI.out.pp.ca HI.out.pp.cb HI.out.ll.rel (Nat.lt_trans HI.out.ll.fin (by decide)) HI.out.len.1)
        go_wp2_with fail
        refine HQ.out.mono ?_
        clear HQ
        rintro e w9 ⟨rfl, ho⟩
        have HA9 := Lib.hid (HI.out.only0 ho)
        clear ho
        go_wp2
        go_roundw
        case measure => (try rw [e2]); exact meas HNK.out.2.2
        case rel => exact ⟨k + 1, now, n, l, L, s, v, by first | rfl | rw [e2], Lib.hid ⟨HNK.out.1, HNK.out.2.1, HNB.out.1⟩, HA9⟩
      · rw [hb, if_pos rfl] at hp
        have HB := Lib.hid hb
        clear hb
        by_cases hL : L.length = 256
        · rw [if_pos (by rw [HI.out.ll.rel.len, hL]; exact Nat.le_refl _)] at hp
          have HL := Lib.hid hL
          obtain ⟨rfl, rfl⟩ := hp
          clear hL
          have HQ := Lib.hid (after18 w3 (d := x) HI.out.pp.cb HI.out.ll.fin HX.out HNR.out HI.out.ll.len)
          go_wp2_with fail
          refine HQ.out.mono ?_
          clear HQ
          intro e w4 hp
          unfold DAfterPost at hp
          rw [HB.out, if_pos rfl, if_pos HL.out] at hp
          obtain ⟨rfl, rfl⟩ := hp
          have HQ := Lib.hid (same24 w4 HI.out.pp.ca HI.out.pp.cb HI.out.ll.rel (Nat.lt_trans HI.out.ll.fin (by decide)) HI.out.len.1)
          go_wp2_with fail
          refine HQ.out.mono ?_
          clear HQ
          rintro e w9 ⟨rfl, ho⟩
          have HA9 := Lib.hid (HI.out.only0 ho)
          clear ho
          go_wp2
          go_roundw
          case measure => (try rw [e2]); exact meas HNK.out.2.2
          case rel => exact ⟨k + 1, now, n, l, L, s, v, by first | rfl | rw [e2], Lib.hid ⟨HNK.out.1, HNK.out.2.1, HNB.out.1⟩, HA9⟩
        · rw [if_neg (by rw [HI.out.ll.rel.len]; have := HI.out.ll.len; omega)] at hp
          have HL := Lib.hid hL
          obtain ⟨rfl, s3, hc, hg⟩ := hp
          clear hL
          have HP3 := Lib.hid (HI.out.pp.left hc hg)
          clear hc hg
          have HQ := Lib.hid (after18 w3 (d := x) HP3.out.cb HI.out.ll.fin HX.out HNR.out HI.out.ll.len)
          go_wp2_with fail
          refine HQ.out.mono ?_
          clear HQ
          intro e w4 hp
          unfold DAfterPost at hp
          rw [HB.out, if_pos rfl, if_neg HL.out] at hp
          obtain ⟨rfl, v4, hc, hg⟩ := hp
          have HA4 := Lib.hid (show AA w w4 r q now (n + 1) _ _ s3 v4 from AA.mk (HP3.out.right hc hg) (HI.out.ll.after (addW_ge (Nat.le_of_lt HI.out.ll.fin)) HL.out))
          clear hc hg
          have HQ := Lib.hid (same24 w4 HA4.out.pp.ca HA4.out.pp.cb HA4.out.ll.rel (Nat.lt_trans HA4.out.ll.fin (by decide)) HA4.out.len.1)
          go_wp2_with fail
          refine HQ.out.mono ?_
          clear HQ
          rintro e w9 ⟨rfl, ho⟩
          have HA9 := Lib.hid (HA4.out.only0 ho)
          clear ho
          go_wp2
          go_roundw
          case measure => (try rw [e2]); exact meas HNK.out.2.2
          case rel => exact ⟨k + 1, now, (n + 1), _, _, s3, v4, by first | rfl | rw [e2], Lib.hid ⟨HNK.out.1, HNK.out.2.1, HNB.out.2⟩, HA9⟩
    by_cases h2 : kd = 2
    · subst h2
      clear h1
      by_cases hf : ∃ y ∈ L, y.1 = id
      · have HF := Lib.hid hf
        have HQA := Lib.hid (fun wx (ho : Only [] wr wx) => canF id (HI.out.only0 ho) HF.out)
        clear hf
        go_wp2
        go_region_held3 (fun w' => w'.cell? ⟨g, off + k * 3 + 2, none⟩ = some (.int .i64 id)) (first | exact y2 | exact HK1 | exact HK2 | go_keep) (first
          | (go_at_call 20; refine (canD id (HP3.out.only0 (by first | exact Only.refl _ _ | exact (Only.refl _ _).drew | exact (Only.refl _ _).drewN _)) HI.out.len.2 HF.out).mono ?_
             rintro e w4 ⟨rfl, j4, v4, hj4, hjj4, hp4⟩
             have HA4 := Lib.hid (AA.mk hp4 (HL3.out j4 hj4 hjj4))
             have HK2 : w4.cell? ⟨g, off + k * 3 + 2, none⟩ = some (.int .i64 id) := HY2.out _ hp4.only
             clear hp4 hj4 hjj4)
          | (go_at_call 19; refine (HQA.out _ (by first | exact Only.refl _ _ | exact (Only.refl _ _).drew | exact (Only.refl _ _).drewN _)).mono ?_
             rintro e w3 ⟨rfl, l3, s3, hp3, hl3⟩
             have HP3 := Lib.hid hp3
             have HL3 := Lib.hid hl3
             have HK1 : w3.cell? ⟨g, off + k * 3 + 2, none⟩ = some (.int .i64 id) := HY2.out _ hp3.only
             clear hp3 hl3))
        go_wp2_with fail
        have HQ := Lib.hid (same24 w4 HA4.out.pp.ca HA4.out.pp.cb HA4.out.ll.rel (Nat.lt_trans HA4.out.ll.fin (by decide)) HA4.out.len.1)
        go_wp2_with fail
        refine HQ.out.mono ?_
        clear HQ
        rintro e w9 ⟨rfl, ho⟩
        have HA9 := Lib.hid (HA4.out.only0 ho)
        clear ho
        go_wp2
        go_roundw
        case measure => (try rw [e2]); exact meas HNK.out.2.2
        case rel => exact ⟨k + 1, now, n, l3, (L.eraseIdx j4), s3, v4, by first | rfl | rw [e2], Lib.hid ⟨HNK.out.1, HNK.out.2.1, HNB.out.1⟩, HA9⟩
      · have HF := Lib.hid hf
        have HQA := Lib.hid (fun wx (ho : Only [] wr wx) => canF0 id (HI.out.only0 ho) HF.out)
        clear hf
        go_wp2
        go_region_held3 (fun w' => w'.cell? ⟨g, off + k * 3 + 2, none⟩ = some (.int .i64 id)) (first | exact y2 | exact HK1 | exact HK2 | go_keep) (first
          | (go_at_call 20; refine (canD0 id (HA3.out.only0 (by first | exact Only.refl _ _ | exact (Only.refl _ _).drew | exact (Only.refl _ _).drewN _)) HF.out).mono ?_
             rintro e w4 ⟨rfl, ha4⟩
             have HA4 := Lib.hid ha4
             have HK2 : w4.cell? ⟨g, off + k * 3 + 2, none⟩ = some (.int .i64 id) := HY2.out _ ha4.pp.only
             clear ha4)
          | (go_at_call 19; refine (HQA.out _ (by first | exact Only.refl _ _ | exact (Only.refl _ _).drew | exact (Only.refl _ _).drewN _)).mono ?_
             rintro e w3 ⟨rfl, ha3⟩
             have HA3 := Lib.hid ha3
             have HK1 : w3.cell? ⟨g, off + k * 3 + 2, none⟩ = some (.int .i64 id) := HY2.out _ ha3.pp.only
             clear ha3))
        go_wp2_with fail
        have HQ := Lib.hid (same24 w4 HA4.out.pp.ca HA4.out.pp.cb HA4.out.ll.rel (Nat.lt_trans HA4.out.ll.fin (by decide)) HA4.out.len.1)
        go_wp2_with fail
        refine HQ.out.mono ?_
        clear HQ
        rintro e w9 ⟨rfl, ho⟩
        have HA9 := Lib.hid (HA4.out.only0 ho)
        clear ho
        go_wp2
        go_roundw
        case measure => (try rw [e2]); exact meas HNK.out.2.2
        case rel => exact ⟨k + 1, now, n, l, L, s, v, by first | rfl | rw [e2], Lib.hid ⟨HNK.out.1, HNK.out.2.1, HNB.out.1⟩, HA9⟩
    by_cases h3 : kd = 3
    · subst h3
      clear h1 h2
      have HQ := Lib.hid (go12 wr (d := x) HI.out.pp.ca HI.out.ll.rel HI.out.ll.fin HX.out HI.out.len.1)
      go_wp2_with fail
      refine HQ.out.mono ?_
      clear HQ
      intro e w3 hp
      unfold GoPost at hp
      by_cases hg : plB x = true ∧ now ≤ plV x ∧ plV x ≠ 9218868437227405312
      · rw [if_pos hg] at hp
        have HGG := Lib.hid hg
        obtain ⟨A, B, m, s3, z, rfl, hgr, hh⟩ := hp
        obtain ⟨za, zc, hz, hsh⟩ := hgr.sl.shape
        subst hz
        have HG := Lib.hid hgr
        have HH := Lib.hid hh
        have HP3 := Lib.hid (HI.out.pp.left hgr.ck hgr.gw)
        clear hgr hh hsh hg
        have HQ := Lib.hid (go21 w3 (d := x) HP3.out.cb HI.out.ll.fin HX.out HI.out.len.2)
        go_wp2_with fail
        refine HQ.out.mono ?_
        clear HQ
        intro e w4 hp
        unfold DGoPost at hp
        rw [if_pos HGG.out] at hp
        obtain ⟨A2, B2, v4, z4, rfl, hdg, hh⟩ := hp
        obtain ⟨hA, hB⟩ := gone_uniq (t := plV x) (by rw [← HG.out.eq, ← hdg.eq]) HG.out.le HH.out hdg.le hh
        subst hA
        subst hB
        obtain ⟨zb, zd, hz, hsh⟩ := hdg.sl.shape
        subst hz
        have HA4 := Lib.hid (AA.mk (HP3.out.right hdg.ck hdg.gw) (HI.out.ll.go HG.out.eq HG.out.rel HGG.out.2.1 (Nat.lt_of_le_of_ne (plB_le HX.out HGG.out.1).1 HGG.out.2.2) HH.out))
        have HQ := Lib.hid (ids13 w4 (sl_keepDW HG.out.sl HP3.out.cb hdg.gw (by decide) (by decide)) hdg.sl (by
          have h1 := HI.out.len.2
          rw [HG.out.eq, List.length_append] at h1
          omega))
        clear hdg hh hsh
        go_wp2_with fail
        refine HQ.out.mono ?_
        clear HQ
        rintro e w5 ⟨rfl, ho⟩
        have HA5 := Lib.hid (HA4.out.only0 ho)
        clear ho
        have HQ := Lib.hid (same24 w5 HA5.out.pp.ca HA5.out.pp.cb HA5.out.ll.rel (Nat.lt_trans HA5.out.ll.fin (by decide)) HA5.out.len.1)
        go_wp2_with fail
        refine HQ.out.mono ?_
        clear HQ
        rintro e w9 ⟨rfl, ho⟩
        have HA9 := Lib.hid (HA5.out.only0 ho)
        clear ho
        go_wp2
        go_roundw
        case measure => (try rw [e2]); exact meas HNK.out.2.2
        case rel => exact ⟨k + 1, _, n, _, _, _, _, by first | rfl | rw [e2], Lib.hid ⟨HNK.out.1, HNK.out.2.1, HNB.out.1⟩, HA9⟩
      · rw [if_neg hg] at hp
        have HGG := Lib.hid hg
        obtain ⟨rfl, rfl⟩ := hp
        clear hg
        have HQ := Lib.hid (go21 w3 (d := x) HI.out.pp.cb HI.out.ll.fin HX.out HI.out.len.2)
        go_wp2_with fail
        refine HQ.out.mono ?_
        clear HQ
        intro e w4 hp
        unfold DGoPost at hp
        rw [if_neg HGG.out] at hp
        obtain ⟨rfl, rfl⟩ := hp
        have HQ := Lib.hid (ids13 w4 (A := []) (Sl.nil w4 3 1) (Sl.nil w4 3 1) (by simp))
        go_wp2_with fail
        refine HQ.out.mono ?_
        clear HQ
        rintro e w5 ⟨rfl, ho⟩
        have HA5 := Lib.hid (HI.out.only0 ho)
        clear ho
        have HQ := Lib.hid (same24 w5 HA5.out.pp.ca HA5.out.pp.cb HA5.out.ll.rel (Nat.lt_trans HA5.out.ll.fin (by decide)) HA5.out.len.1)
        go_wp2_with fail
        refine HQ.out.mono ?_
        clear HQ
        rintro e w9 ⟨rfl, ho⟩
        have HA9 := Lib.hid (HA5.out.only0 ho)
        clear ho
        go_wp2
        go_roundw
        case measure => (try rw [e2]); exact meas HNK.out.2.2
        case rel => exact ⟨k + 1, _, n, _, _, _, _, by first | rfl | rw [e2], Lib.hid ⟨HNK.out.1, HNK.out.2.1, HNB.out.1⟩, HA9⟩
    by_cases h4 : kd = 4
    · subst h4
      clear h1 h2 h3
      have z0 := HI.out.pp.cb.blk.cell 0
      have zl := HI.out.pp.cb.blk.lt
      simp at z0
      obtain ⟨y, w2, hy, hadd, hw2⟩ := add_some now x wr
      have HYY := Lib.hid hy
      have HA2 := Lib.hid (show AA w w2 r q now n l L s v by
        rcases hw2 with rfl | rfl
        · exact HI.out
        · exact HI.out.only0 (Only.refl _ _).drew)
      clear hy hw2
      have HQ := Lib.hid (go12 w2 (d := y) HA2.out.pp.ca HA2.out.ll.rel HA2.out.ll.fin HYY.out HA2.out.len.1)
      go_wp2_with fail
      refine HQ.out.mono ?_
      clear HQ
      intro e w3 hp
      unfold GoPost at hp
      by_cases hg : plB y = true ∧ now ≤ plV y ∧ plV y ≠ 9218868437227405312
      · rw [if_pos hg] at hp
        have HGG := Lib.hid hg
        obtain ⟨A, B, m, s3, z, rfl, hgr, hh⟩ := hp
        obtain ⟨za, zc, hz, hsh⟩ := hgr.sl.shape
        subst hz
        have HG := Lib.hid hgr
        have HH := Lib.hid hh
        have HP3 := Lib.hid (HA2.out.pp.left hgr.ck hgr.gw)
        clear hgr hh hsh hg
        have HQ := Lib.hid (go21 w3 (d := y) HP3.out.cb HA2.out.ll.fin HYY.out HA2.out.len.2)
        go_wp2_with fail
        refine HQ.out.mono ?_
        clear HQ
        intro e w4 hp
        unfold DGoPost at hp
        rw [if_pos HGG.out] at hp
        obtain ⟨A2, B2, v4, z4, rfl, hdg, hh⟩ := hp
        obtain ⟨hA, hB⟩ := gone_uniq (t := plV y) (by rw [← HG.out.eq, ← hdg.eq]) HG.out.le HH.out hdg.le hh
        subst hA
        subst hB
        obtain ⟨zb, zd, hz, hsh⟩ := hdg.sl.shape
        subst hz
        have HA4 := Lib.hid (AA.mk (HP3.out.right hdg.ck hdg.gw) (HA2.out.ll.go HG.out.eq HG.out.rel HGG.out.2.1 (Nat.lt_of_le_of_ne (plB_le HYY.out HGG.out.1).1 HGG.out.2.2) HH.out))
        have HQ := Lib.hid (ids13 w4 (sl_keepDW HG.out.sl HP3.out.cb hdg.gw (by decide) (by decide)) hdg.sl (by
          have h1 := HA2.out.len.2
          rw [HG.out.eq, List.length_append] at h1
          omega))
        clear hdg hh hsh
        go_wp2_with fail
        refine HQ.out.mono ?_
        clear HQ
        rintro e w5 ⟨rfl, ho⟩
        have HA5 := Lib.hid (HA4.out.only0 ho)
        clear ho
        have HQ := Lib.hid (same24 w5 HA5.out.pp.ca HA5.out.pp.cb HA5.out.ll.rel (Nat.lt_trans HA5.out.ll.fin (by decide)) HA5.out.len.1)
        go_wp2_with fail
        refine HQ.out.mono ?_
        clear HQ
        rintro e w9 ⟨rfl, ho⟩
        have HA9 := Lib.hid (HA5.out.only0 ho)
        clear ho
        go_wp2
        go_roundw
        case measure => (try rw [e2]); exact meas HNK.out.2.2
        case rel => exact ⟨k + 1, _, n, _, _, _, _, by first | rfl | rw [e2], Lib.hid ⟨HNK.out.1, HNK.out.2.1, HNB.out.1⟩, HA9⟩
      · rw [if_neg hg] at hp
        have HGG := Lib.hid hg
        obtain ⟨rfl, rfl⟩ := hp
        clear hg
        have HQ := Lib.hid (go21 w3 (d := y) HA2.out.pp.cb HA2.out.ll.fin HYY.out HA2.out.len.2)
        go_wp2_with fail
        refine HQ.out.mono ?_
        clear HQ
        intro e w4 hp
        unfold DGoPost at hp
        rw [if_neg HGG.out] at hp
        obtain ⟨rfl, rfl⟩ := hp
        have HQ := Lib.hid (ids13 w4 (A := []) (Sl.nil w4 3 1) (Sl.nil w4 3 1) (by simp))
        go_wp2_with fail
        refine HQ.out.mono ?_
        clear HQ
        rintro e w5 ⟨rfl, ho⟩
        have HA5 := Lib.hid (HA2.out.only0 ho)
        clear ho
        have HQ := Lib.hid (same24 w5 HA5.out.pp.ca HA5.out.pp.cb HA5.out.ll.rel (Nat.lt_trans HA5.out.ll.fin (by decide)) HA5.out.len.1)
        go_wp2_with fail
        refine HQ.out.mono ?_
        clear HQ
        rintro e w9 ⟨rfl, ho⟩
        have HA9 := Lib.hid (HA5.out.only0 ho)
        clear ho
        go_wp2
        go_roundw
        case measure => (try rw [e2]); exact meas HNK.out.2.2
        case rel => exact ⟨k + 1, _, n, _, _, _, _, by first | rfl | rw [e2], Lib.hid ⟨HNK.out.1, HNK.out.2.1, HNB.out.1⟩, HA9⟩
    by_cases h5 : kd = 5
    · subst h5
      clear h1 h2 h3 h4
      have HQ := Lib.hid (jump22 wr HI.out.pp.ca HI.out.ll.rel HI.out.ll.fin (fun y hy => HI.out.ll.ge y (HI.out.ll.rel.perm.mem_iff.1 hy)) HI.out.len.1)
      go_wp2_with fail
      refine HQ.out.mono ?_
      clear HQ
      intro e w3 hp
      unfold JumpPost at hp
      rw [(rel_next HI.out.ll.rel).1, (rel_next HI.out.ll.rel).2] at hp
      cases hb : nextB L
      · rw [hb, if_neg (by simp)] at hp
        have HB := Lib.hid hb
        obtain ⟨rfl, rfl⟩ := hp
        clear hb
        have HQ := Lib.hid (jump23 w3 HI.out.pp.cb HI.out.ll.fin HI.out.ll.ge HI.out.len.2)
        go_wp2_with fail
        refine HQ.out.mono ?_
        clear HQ
        intro e w4 hp
        unfold DJumpPost at hp
        rw [HB.out, if_neg (by simp)] at hp
        obtain ⟨rfl, rfl⟩ := hp
        have HQ := Lib.hid (ids13 w4 (A := []) (Sl.nil w4 3 1) (Sl.nil w4 3 1) (by simp))
        go_wp2_with fail
        refine HQ.out.mono ?_
        clear HQ
        rintro e w5 ⟨rfl, ho⟩
        have HA5 := Lib.hid (HI.out.only0 ho)
        clear ho
        have HQ := Lib.hid (same24 w5 HA5.out.pp.ca HA5.out.pp.cb HA5.out.ll.rel (Nat.lt_trans HA5.out.ll.fin (by decide)) HA5.out.len.1)
        go_wp2_with fail
        refine HQ.out.mono ?_
        clear HQ
        rintro e w9 ⟨rfl, ho⟩
        have HA9 := Lib.hid (HA5.out.only0 ho)
        clear ho
        go_wp2
        go_roundw
        case measure => (try rw [e2]); exact meas HNK.out.2.2
        case rel => exact ⟨k + 1, now, n, l, L, s, v, by first | rfl | rw [e2], Lib.hid ⟨HNK.out.1, HNK.out.2.1, HNB.out.1⟩, HA9⟩
      · rw [hb, if_pos rfl] at hp
        have HB := Lib.hid hb
        have HNX := Lib.hid (HI.out.ll.next hb HI.out.pp.cb.le)
        clear hb
        obtain ⟨A, B, m, s3, z, rfl, hgr, hh⟩ := hp
        obtain ⟨za, zc, hz, hsh⟩ := hgr.sl.shape
        subst hz
        have HG := Lib.hid hgr
        have HH := Lib.hid hh
        have HP3 := Lib.hid (HI.out.pp.left hgr.ck hgr.gw)
        clear hgr hh hsh
        have HQ := Lib.hid (jump23 w3 HP3.out.cb HI.out.ll.fin HI.out.ll.ge HI.out.len.2)
        go_wp2_with fail
        refine HQ.out.mono ?_
        clear HQ
        intro e w4 hp
        unfold DJumpPost at hp
        rw [HB.out, if_pos rfl] at hp
        obtain ⟨A2, B2, v4, z4, rfl, hdg, hh⟩ := hp
        obtain ⟨hA, hB⟩ := gone_uniq (t := nextV L) (by rw [← HG.out.eq, ← hdg.eq]) HG.out.le HH.out hdg.le hh
        subst hA
        subst hB
        obtain ⟨zb, zd, hz, hsh⟩ := hdg.sl.shape
        subst hz
        have HA4 := Lib.hid (AA.mk (HP3.out.right hdg.ck hdg.gw) (HI.out.ll.go HG.out.eq HG.out.rel HNX.out.1 HNX.out.2 HH.out))
        have HQ := Lib.hid (ids13 w4 (sl_keepDW HG.out.sl HP3.out.cb hdg.gw (by decide) (by decide)) hdg.sl (by
          have h1 := HI.out.len.2
          rw [HG.out.eq, List.length_append] at h1
          omega))
        clear hdg hh hsh
        go_wp2_with fail
        refine HQ.out.mono ?_
        clear HQ
        rintro e w5 ⟨rfl, ho⟩
        have HA5 := Lib.hid (HA4.out.only0 ho)
        clear ho
        have HQ := Lib.hid (same24 w5 HA5.out.pp.ca HA5.out.pp.cb HA5.out.ll.rel (Nat.lt_trans HA5.out.ll.fin (by decide)) HA5.out.len.1)
        go_wp2_with fail
        refine HQ.out.mono ?_
        clear HQ
        rintro e w9 ⟨rfl, ho⟩
        have HA9 := Lib.hid (HA5.out.only0 ho)
        clear ho
        go_wp2
        go_roundw
        case measure => (try rw [e2]); exact meas HNK.out.2.2
        case rel => exact ⟨k + 1, _, n, _, _, _, _, by first | rfl | rw [e2], Lib.hid ⟨HNK.out.1, HNK.out.2.1, HNB.out.1⟩, HA9⟩
    have k1 : (kd == 1) = false := beq_eq_false_iff_ne.2 h1
    have k2 : (kd == 2) = false := beq_eq_false_iff_ne.2 h2
    have k3 : (kd == 3) = false := beq_eq_false_iff_ne.2 h3
    have k4 : (kd == 4) = false := beq_eq_false_iff_ne.2 h4
    have k5 : (kd == 5) = false := beq_eq_false_iff_ne.2 h5
    clear h1 h2 h3 h4 h5
    have HQ := Lib.hid (same24 wr HI.out.pp.ca HI.out.pp.cb HI.out.ll.rel (Nat.lt_trans HI.out.ll.fin (by decide)) HI.out.len.1)
    go_wp2_with fail
    refine HQ.out.mono ?_
    clear HQ
    rintro e w9 ⟨rfl, ho⟩
    have HA9 := Lib.hid (HI.out.only0 ho)
    clear ho
    go_wp2
    go_roundw
    case measure => (try rw [e2]); exact meas HNK.out.2.2
    case rel => exact ⟨k + 1, now, n, l, L, s, v, by first | rfl | rw [e2], Lib.hid ⟨HNK.out.1, HNK.out.2.1, HNB.out.1⟩, HA9⟩
end Go.Proofs.Ytjnhplgdbdneiaa
