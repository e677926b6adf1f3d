/-
  Clock: the library's insertion sort.
-/
import Derived.Test.YtjnhplgdbdneiaaDk
import Derived.Test.YtjnhplgdbdneiaaCg
set_option linter.unusedSimpArgs false
set_option linter.unusedVariables false
namespace Go.Proofs.Ytjnhplgdbdneiaa
open Go.RowKit Go.Fl

theorem wrap_in {x : Int} (h : -9223372036854775808 ≤ x ∧ x < 9223372036854775808) : wrap64 x = x := by
  unfold wrap64
  omega
theorem wrap_to {x y : Int} (h : -9223372036854775808 ≤ x ∧ x < 9223372036854775808) (e : x = y) : wrap64 x = y := (wrap_in h).trans e
abbrev cmpF : Value := .func (.func 33) #[] #[]
/-- Timers under a sort. -/
structure DS (w : World) (g off cap N : Nat) (d : List Tm) : Prop where
  sl : Sl w 70 2 (.slice (some ⟨g, off, none⟩) N cap) N (tcs d)
  len : d.length = N
  le : ∀ x ∈ d, x.2 ≤ 9218868437227405312
theorem DS.only0 {w w' : World} {g off cap N : Nat} {d : List Tm} (h : DS w g off cap N d) (ho : Only [] w w') : DS w' g off cap N d := ⟨h.sl.only ho (fun _ _ => by simp), h.len, h.le⟩
theorem DS.leD {w : World} {g off cap N : Nat} {d : List Tm} (h : DS w g off cap N d) {k : Nat} (hk : k < N) : (d.getD k (0, 0)).2 ≤ 9218868437227405312 := h.le _ (by
  have := h.len
  rw [getD_getElem (by omega)]
  exact List.getElem_mem _)
theorem DS.cap {w : World} {g off cap N : Nat} {d : List Tm} (h : DS w g off cap N d) : (N : Int) ≤ (cap : Int) := by
  obtain ⟨a, c, e, hc, _⟩ := h.sl.shape
  injection e with _ _ e
  omega
/-- Two change places. -/
theorem DS.swp {w w' : World} {g off cap N : Nat} {d : List Tm} {i j : Nat} (h : DS w g off cap N d) (hi : i < N) (hj : j < N) (hS : Sl w' 70 2 (.slice (some ⟨g, off, none⟩) N cap) N (tcs (swp d i j))) : DS w' g off cap N (swp d i j) :=
  ⟨hS, by rw [swp_len, h.len], fun x hx => h.le x ((swp_perm d (by rw [h.len]; exact hi) (by rw [h.len]; exact hj)).mem_iff.1 hx)⟩
set_option maxRecDepth 100000 in
set_option maxHeartbeats 6400000 in
theorem ins51 (w : World) {g off cap N : Nat} {d : List Tm} (h : DS w g off cap N d) {a b : Nat} (hb : b ≤ N) (hmx : N ≤ 1048577) (ha : a ≤ N) :
    Calls Try.prog 51 #[.slice (some ⟨g, off, none⟩) N cap, iv a, iv b, cmpF] w fun e w' => e = .returned (.tuple #[]) ∧ ∃ d', DS w' g off cap N d' ∧ RP a b d d' ∧ SR d' a b ∧ Only [g] w w' := by
  have HD := Lib.hid h
  have HM := Lib.hid (And.intro hb (And.intro hmx ha))
  obtain ⟨a1, ha1⟩ : ∃ a1, a1 = a + 1 := ⟨_, rfl⟩
  have e1 : wrap64 ((a : Int) + 1) = (a1 : Int) := wrap_to (by omega) (by omega)
  have HA1 := Lib.hid ha1
  clear h hb hmx ha ha1
  go_enter Try.func51, Try.ntmps51
  go_wp2
  rw [e1]
  clear e1
  go_loopw [8] (fun z wr => ∃ (i : Nat) (d1 : List Tm), z = .int .i64 i ∧ Hid (a + 1 ≤ i ∧ (i ≤ b ∨ i = a + 1)) ∧ Hid (DS wr g off cap N d1) ∧ Hid (RP a b d d1) ∧ Hid (SR d1 a i) ∧ Hid (Only [g] w wr)) (fun z _ => b - (intOf z).toNat)
  case atStart => exact ⟨a1, d, rfl, Lib.hid (by have := HA1.out; omega), HD, Lib.hid (RP.refl _ _ _), Lib.hid (SR.one _ _ _ (by have := HA1.out; omega)), Lib.hid (Only.refl _ _)⟩
  case round =>
    obtain ⟨i, d1, rfl, HI, HD1, HP1, HS1, HO1⟩ := hrel
    by_cases hib : i < b
    case neg =>
      have hibz : ¬ (i : Int) < (b : Int) := by omega
      have HE := Lib.hid (show SR d1 a b from fun p q h1 h2 h3 => HS1.out p q h1 h2 (by omega))
      go_wp2
      exact bodyPost_end (results_none rfl _ _ _) rfl ⟨rfl, d1, HD1.out, HP1.out, HE.out, HO1.out⟩
    have hibz : (i : Int) < (b : Int) := by omega
    have HIB := Lib.hid hib
    have HNI := Lib.hid (show a + 1 ≤ i + 1 ∧ (i + 1 ≤ b ∨ i + 1 = a + 1) by have := HI.out; omega)
    have HME := Lib.hid (show b - (i + 1) < b - i by omega)
    have e2 : wrap64 ((i : Int) + 1) = ((i + 1 : Nat) : Int) := wrap_to (by have := HM.out; omega) (by omega)
    clear hib
    obtain ⟨wo, hwo⟩ : ∃ x : World, x = wr := ⟨_, rfl⟩
    subst hwo
    go_wp2
    go_loopw [9] (fun z wr => ∃ (j : Nat) (d2 : List Tm), z = .int .i64 j ∧ Hid (a ≤ j ∧ j ≤ i) ∧ Hid (DS wr g off cap N d2) ∧ Hid (RP a b d d2) ∧ Hid (SJ d2 a i j) ∧ Hid (Only [g] w wr)) (fun z _ => (intOf z).toNat)
    case atStart => exact ⟨i, d1, rfl, Lib.hid (by have := HI.out; omega), HD1, HP1, Lib.hid (SJ.start HS1.out), HO1⟩
    case round =>
      obtain ⟨j, d2, rfl, HJ, HD2, HP2, HS2, HO2⟩ := hrel
      by_cases hja : a < j
      case neg =>
        have hjaz : ¬ (a : Int) < (j : Int) := by omega
        have HE := Lib.hid (HS2.out.stop HJ.out.1 (.inl (by have := HJ.out; omega)))
        clear hja
        go_wp2
        refine Lex.wp_region_text (by kernel_rfl) (by kernel_rfl) ?_
        go_wp2
        refine Lex.sq_done (by rfl) ?_
        go_wp2
        go_roundw
        case measure => rw [e2]; exact HME.out
        case rel => exact ⟨i + 1, d2, by rw [e2], HNI, Lib.hid (HD2.out.only0 (Only.refl _ _).drew), HP2, HE, Lib.hid HO2.out.drew⟩
      have hjaz : (a : Int) < (j : Int) := by omega
      obtain ⟨p, hp⟩ : ∃ p, p = j - 1 := ⟨_, rfl⟩
      have e3 : wrap64 ((j : Int) - 1) = (p : Int) := wrap_to (by have := HM.out.1; have := HM.out.2.1; have := HJ.out.2; have := HIB.out; omega) (by omega)
      have hjN : (j : Int) < (N : Int) := by have := HM.out; have := HJ.out; have := HIB.out; omega
      have hpN : (p : Int) < (N : Int) := by omega
      have hcap := HD2.out.cap
      have HPJ := Lib.hid (show p = j - 1 ∧ a < j ∧ j < N ∧ p < N by omega)
      obtain ⟨y0, y1⟩ := TSl.at_ HD2.out.sl (show j < d2.length by have := HD2.out.len; omega)
      obtain ⟨z0, z1⟩ := TSl.at_ HD2.out.sl (show p < d2.length by have := HD2.out.len; omega)
      have HQ := Lib.hid (fun w => order33 w (d2.getD j (0, 0)) (d2.getD p (0, 0)) (HD2.out.leD (by omega)) (HD2.out.leD (by omega)))
      have HLT := Lib.hid (ordI_lt (d2.getD j (0, 0)) (d2.getD p (0, 0)))
      have HX := Lib.hid (show d2.getD j (0, 0) = d2.getD j (0, 0) from rfl)
      obtain ⟨x, hx⟩ : ∃ x, d2.getD j (0, 0) = x := ⟨_, rfl⟩
      obtain ⟨y, hy⟩ : ∃ y, d2.getD p (0, 0) = y := ⟨_, rfl⟩
      have HXY := Lib.hid (And.intro hx hy)
      rw [hx] at y0 y1 HQ HLT
      rw [hy] at z0 z1 HQ HLT
      clear hja hp hx hy HX
      go_wp2
      refine Lex.wp_region_text (by kernel_rfl) (by kernel_rfl) ?_
      go_wp2_with fail
      refine (HQ.out _).mono ?_
      clear HQ
      rintro e w2 ⟨rfl, ho⟩
      have HD3 := Lib.hid (HD2.out.only0 ((Only.refl [] wr).drew.trans ho))
      have HO3 := Lib.hid (HO2.out.trans (((Only.refl [] wr).drew.trans ho).mono (by simp)))
      clear ho HD2 HO2 y0 y1 z0 z1
      by_cases hc : ordI x y < 0
      · have HT := Lib.hid (show tlt (d2.getD j (0, 0)) (d2.getD p (0, 0)) = true by rw [HXY.out.1, HXY.out.2, ← HLT.out]; exact decide_eq_true hc)
        obtain ⟨cur, hB, hfit⟩ := TSl.fit HD3.out.sl
        have HB := Lib.hid hB
        have HFIT := Lib.hid (show off + N * 2 ≤ cur.size ∧ j < N ∧ p < N by have := HPJ.out; omega)
        obtain ⟨y0, y1⟩ := TSl.at_ HD3.out.sl (show j < d2.length by have := HD3.out.len; have := HPJ.out; omega)
        obtain ⟨z0, z1⟩ := TSl.at_ HD3.out.sl (show p < d2.length by have := HD3.out.len; have := HPJ.out; omega)
        rw [HXY.out.1] at y0 y1
        rw [HXY.out.2] at z0 z1
        clear hB hfit
        go_wp2
        refine Lex.sq_done (by rfl) ?_
        go_wp2
        refine Lex.wp_region_text (by kernel_rfl) (by kernel_rfl) ?_
        go_wp2_with (refine wpList_store_blk (g := g) (k := off + j * 2) rfl 70 (.tmp 51) (.tmp 46) rfl [iv y.1, fv y.2] rfl rfl HB.out.drew (by kernel_rfl) (by have := HFIT.out; simp; omega) (by simp [Value.oneCell']) ?_)
        intro w4 hB4 hO4
        have HS4 := Lib.hid (TSl.put (i := j) (x := y) HD3.out.sl HB.out (by have := HFIT.out; have := HD3.out.len; omega) HD3.out.len hB4)
        have HB4 := Lib.hid hB4
        have HO4 := Lib.hid ((Only.refl [g] w2).drew.trans hO4)
        clear hB4 hO4 HB
        go_wp2_with (refine wpList_store_blk (g := g) (k := off + p * 2) rfl 70 (.tmp 52) (.tmp 50) rfl [iv x.1, fv x.2] rfl rfl HB4.out (by kernel_rfl) (by have := HFIT.out; have hcl : cur.toList.length = cur.size := Array.length_toList; simp; omega) (by simp [Value.oneCell']) ?_)
        intro w5 hB5 hO5
        have HS5 := Lib.hid (TSl.put (i := p) (x := x) HS4.out HB4.out (by have := HFIT.out; have := HD3.out.len; simp; omega) (by rw [List.length_set]; exact HD3.out.len) hB5)
        have HD5 := Lib.hid (show DS w5 g off cap N (swp d2 j p) from HD3.out.swp HFIT.out.2.1 HFIT.out.2.2 (by rw [swp_swp, HXY.out.1, HXY.out.2]; exact HS5.out))
        have HO5 := Lib.hid (HO3.out.trans (HO4.out.trans hO5))
        have HP5 := Lib.hid (HP2.out.trans (RP.swap (a := a) (b := b) (i := j) (j := p) (by have := HJ.out; have := HIB.out; omega) (by have := HPJ.out; have := HJ.out; have := HIB.out; omega) (by rw [HD3.out.len]; exact HM.out.1)))
        have HS6 := Lib.hid (show SJ (swp d2 j p) a i p by
          have h1 := HPJ.out
          rw [h1.1] at HT ⊢
          exact HS2.out.step h1.2.1 HJ.out.2 (by rw [HD3.out.len]; have := HM.out; have := HIB.out; omega) HT.out)
        clear hB5 hO5 HS4 HB4 HO4 HS5 HD3 HO3
        go_wp2
        refine Lex.sq_done (by rfl) ?_
        go_wp2
        go_roundw
        case measure => (try rw [e3]); exact (show p < j by have := HPJ.out; omega)
        case rel => exact ⟨p, _, by first | rfl | rw [e3], Lib.hid (by have := HPJ.out; have := HJ.out; omega), HD5, HP5, HS6, HO5⟩
      · have HT := Lib.hid (show tlt (d2.getD j (0, 0)) (d2.getD (j - 1) (0, 0)) = false by rw [← HPJ.out.1, HXY.out.1, HXY.out.2, ← HLT.out]; exact decide_eq_false hc)
        have HE := Lib.hid (HS2.out.stop HJ.out.1 (.inr HT.out))
        go_wp2
        refine Lex.sq_done (by rfl) ?_
        go_wp2
        go_roundw
        case measure => rw [e2]; exact HME.out
        case rel => exact ⟨i + 1, d2, by rw [e2], HNI, HD3, HP2, HE, HO3⟩
end Go.Proofs.Ytjnhplgdbdneiaa
