/-
  The lists of bytes that are kept: Apart's walk.
-/
import Derived.Test.YtffdfegelgpniaaZEb
set_option linter.unusedSimpArgs false
set_option linter.unusedVariables false
set_option linter.unusedSimpArgs false
set_option linter.unusedVariables false
namespace Go.Proofs.Ytffdfegelgpniaa
open Go.Fl Go.RowKit

abbrev mb (sc j : Nat) : Value := bv (j / sc % 250)
def Q1 (sc L i : Nat) : Nat → Nat → List Value → Prop := fun j n xs => (j < i → xs = List.replicate n (mb sc j) ∧ n ≤ L + 5000) ∧ (i ≤ j → n ≤ L)
def Q2 (sc L i : Nat) : Nat → Nat → List Value → Prop := fun j n xs => (j < i → xs = List.replicate n (mb sc j) ∧ n ≤ L + 5000) ∧ (i < j → n ≤ L) ∧ (j = i → n ≤ L + 5000)
def Q3 (sc L i k : Nat) : Nat → Nat → List Value → Prop := fun j n xs => (j < i → xs = List.replicate n (mb sc j) ∧ n ≤ L + 5000) ∧ (i < j → n ≤ L) ∧ (j = i → n ≤ L + 5000 ∧ k ≤ n ∧ xs.take k = List.replicate k (mb sc i))
def SC (sc L : Nat) : Prop := sc = 1 ∧ L = 4194304 ∨ sc = 250 ∧ L = 4199304 ∨ sc = 62500 ∧ L = 4204304
theorem mark_eq {i sc : Nat} (hi : i ≤ 4194304) : (wrap64 ((i : Int) / (sc : Int))).tmod 250 % 256 = ((i / sc % 250 : Nat) : Int) := by
  have h1 : (i : Int) / (sc : Int) = ((i / sc : Nat) : Int) := by simp
  have h2 : i / sc ≤ i := Nat.div_le_self _ _
  rw [h1]
  generalize i / sc = q at *
  clear h1
  rw [show wrap64 (q : Int) = (q : Int) by unfold wrap64; omega, Int.tmod_eq_emod_of_nonneg (by omega)]
  omega
theorem sl_one1 {w : World} {g : Nat} {x : Value} (h : Blk w g 5 #[x]) : Sl w 5 1 (.slice (some ⟨g, 0, none⟩) 1 1) 1 [x] :=
  ⟨rfl, .inr ⟨g, 0, 1, #[x], rfl, h, Nat.le_refl _, by decide, Nat.le_refl _, rfl⟩⟩
set_option maxRecDepth 100000 in
set_option maxHeartbeats 6400000 in
theorem apartB_ok {W w : World} {r gb ob cb sz : Nat} {ents : List Value} (h : QE W w r gb ob cb sz ents (Q1 1 4194304 0)) (hM : ents.length ≤ 4194304) : Calls Try.prog 34 #[.pointer (some ⟨r, 0, none⟩)] w fun e w' => e = .returned (.bool true) ∧ Only [] W w' := by
  obtain ⟨j5, si, sz0, sz1, sz2⟩ := info_parts info5
  have H := Lib.hid h
  obtain ⟨M, hM2⟩ : ∃ M, M = ents.length := ⟨_, rfl⟩
  rw [← hM2] at hM
  have HML := Lib.hid hM
  have HM := Lib.hid hM2
  clear h hM hM2
  go_enter Try.func34, Try.ntmps34
  go_wp2
  go_loopw [3] (fun z wr => ∃ (sc L : Nat) (en : List Value), z = .int .i64 sc ∧ en.length = M ∧ Hid (SC sc L) ∧ Hid (QE W wr r gb ob cb sz en (Q1 sc L 0))) (fun z _ => 100000 - (intOf z).toNat)
  case atStart => exact ⟨1, 4194304, ents, rfl, HM.out.symm, Lib.hid (.inl ⟨rfl, rfl⟩), H⟩
  case round =>
    obtain ⟨sc, L, en0, rfl, hen0, HSC, HE0⟩ := hrel
    by_cases hsc : (sc : Int) ≤ 250
    case neg =>
      go_wp2
      exact bodyPost_ret (results_tmp rfl _ _ _) rfl ⟨rfl, HE0.out.only⟩
    have HSL := Lib.hid (show (sc = 1 ∧ L = 4194304 ∨ sc = 250 ∧ L = 4199304) ∧ L ≤ 4199304 ∧ 0 < sc from by
      rcases HSC.out with ⟨rfl, rfl⟩ | ⟨rfl, rfl⟩ | ⟨rfl, rfl⟩
      · omega
      · omega
      · exfalso; omega)
    have hsw : wrap64 ((sc : Int) * 250) = ((sc * 250 : Nat) : Int) := by
      rcases HSL.out.1 with ⟨rfl, _⟩ | ⟨rfl, _⟩ <;> (unfold wrap64; omega)
    obtain ⟨wo, hwo⟩ : ∃ x : World, x = wr := ⟨_, rfl⟩
    subst hwo
    go_wp2
    go_loopw [4] (fun z wr => ∃ (i : Nat) (en : List Value), i ≤ M ∧ z = .int .i64 i ∧ en.length = M ∧ Hid (QE W wr r gb ob cb sz en (Q1 sc L i))) (fun z _ => M - (intOf z).toNat)
    case atStart => exact ⟨0, en0, Nat.zero_le _, rfl, hen0, HE0⟩
    case round =>
      obtain ⟨i, en, hi, rfl, hen, HE⟩ := hrel
      have r0 := HE.out.blk.cell 0
      have rf0 := HE.out.blk.frozen 0
      have rl0 := HE.out.blk.lt
      simp at r0
      rw [hen] at r0
      by_cases hiM : i < M
      · have hiz : (i : Int) < (M : Int) := by omega
        obtain ⟨g, off, n, cap, xs, e1, hg, hn, hS, hP⟩ := HE.out.ent i (by omega)
        have hb := HE.out.sl.form (by omega)
        obtain ⟨_, _, _, ee, hgbl, _, _, hcell, hfr⟩ := hb
        injection ee with ea _ ec
        injection ea with ea
        injection ea with ea eb
        subst ea
        subst eb
        subst ec
        have b0 := hcell i (by omega)
        rw [List.getElem?_eq_getElem (by omega)] at b0
        have bf0 := hfr (ob + i)
        clear hcell hfr
        rw [e1] at b0
        have hn65 := hP.2 (Nat.le_refl _)
        have HQ := Lib.hid (fun w' => room_ok w' n cap (by omega))
        have HNL := Lib.hid hn65
        clear hn65 hn
        go_wp2
        refine Lex.wp_region_text (by kernel_rfl) (by kernel_rfl) ?_
        go_wp2_with fail
        refine (HQ.out _).mono ?_
        rintro e w2 ⟨rfl, rfl⟩
        go_wp2
        refine Lex.sq_done (by rfl) ?_
        go_wp2
        have HLM := Lib.hid (show min cap (n + 5000) ≤ L + 5000 by have := HNL.out; omega)
        generalize min cap (n + 5000) = lim at *
        obtain ⟨wo, hwo⟩ : ∃ x : World, x = wr := ⟨_, rfl⟩
        subst hwo
        go_loopw [] (fun wr2 => ∃ en2 : List Value, en2.length = M ∧ Hid (QE W wr2 r gb ob cb sz en2 (Q2 sc L i))) (fun wr2 => lim - lenAt wr2 gb (ob + i))
        case atStart =>
          exact ⟨en, hen, Lib.hid ((HE.out.only0 (Only.refl _ _).drew).mono fun j n' xs' hj hp => ⟨hp.1, fun h => hp.2 (by omega), fun h => by have := hp.2 (by omega); omega⟩)⟩
        case round =>
          obtain ⟨en2, hen2, HE2⟩ := hrel
          clear r0 rf0 rl0 b0 bf0 e1 hg hS hP hgbl
          have r0 := HE2.out.blk.cell 0
          have rf0 := HE2.out.blk.frozen 0
          have rl0 := HE2.out.blk.lt
          simp at r0
          rw [hen2] at r0
          obtain ⟨g, off, n, cap, xs, e1, hg, hn, hS, hP⟩ := HE2.out.ent i (by omega)
          have hb := HE2.out.sl.form (by omega)
          obtain ⟨_, _, _, ee, hgbl, _, _, hcell, hfr⟩ := hb
          injection ee with ea _ ec
          injection ea with ea
          injection ea with ea eb
          subst ea
          subst eb
          subst ec
          have b0 := hcell i (by omega)
          rw [List.getElem?_eq_getElem (by omega)] at b0
          have bf0 := hfr (ob + i)
          clear hcell hfr
          rw [e1] at b0
          by_cases hnl : n < lim
          · have hnz : (n : Int) < (lim : Int) := by omega
            have HLI := Lib.hid (show n + 1 ≤ L + 5000 ∧ L ≤ 4199304 by have := HLM.out; have := HSL.out.2; omega)
            have HLA := Lib.hid (lenAt_of b0)
            have HE8 := HE2
            clear hn
            go_wp2
            go_region_law (first
              | (refine step_append_sls rfl (.tmp 60) (.tmp 61) 28 rfl 5 j5 _ 1 1 Try.underlying28 si sz0 sz1 sz2 rfl (by decide) rfl (hS.drew.alloc _) rfl (sl_one1 (Blk.new _ _ _)) (by simp [Value.oneCell']) (by have := HLI.out; unfold maxLen; omega) (by have := HLI.out; omega) ?_
                 intro v7 w7 hS7 hg7 hat7
                 obtain ⟨g7, o7, c7, hv7, _⟩ := hS7.form (by omega)
                 subst hv7
                 have hEa := HE8.out.only0 ((Only.refl _ _).drew.alloc (.cells #[bv 0] 5))
                 have hEB := hEa.after (by omega) e1 hg7
                 have HE3 := Lib.hid (hEa.grow (P' := Q2 sc L i) (new := [bv 0]) (by omega) e1 (by have := HLI.out; omega) hS7 hg7 hat7 (fun j n' xs' hj hne hp => hp) ⟨fun h => absurd h (Nat.lt_irrefl _), fun h => absurd h (Nat.lt_irrefl _), fun _ => by have := HLI.out; omega⟩)
                 have u0 := hEB.1.cell 0
                 have uf0 := hEB.1.frozen 0
                 have ul0 := hEB.1.lt
                 simp at u0
                 rw [hen2] at u0
                 have hbx := hEB.2.form (by omega)
                 obtain ⟨_, _, _, ee, ugl, _, _, hcell, hfr⟩ := hbx
                 injection ee with ea _ ec
                 injection ea with ea
                 injection ea with ea eb
                 subst ea
                 subst eb
                 subst ec
                 have ub0 := hcell i (by omega)
                 rw [List.getElem?_eq_getElem (by omega), e1] at ub0
                 have ubf := hfr (ob + i)
                 have HLB := Lib.hid (HE3.out.lenAt (i := i) (by simp; omega) (List.getElem_set_self _))
                 clear hcell hfr hEa hEB hg7 hat7
                 clear hS7))
            all_goals
              have HM10 := Lib.hid (show lim - lenAt (w7.setCell ⟨gb, ob + i, none⟩ (.slice (some ⟨g7, o7, none⟩) (n + 1) c7)) gb (ob + i) < lim - lenAt wr gb (ob + i) by rw [HLB.out, HLA.out]; omega)
              go_wp2
              go_roundw
              case measure => exact HM10.out
              case rel => exact ⟨_, by simp; omega, HE3⟩
          · have hnz : ¬ (n : Int) < (lim : Int) := by omega
            obtain ⟨wp, hwp⟩ : ∃ x : World, x = wr := ⟨_, rfl⟩
            subst hwp
            clear hn
            go_wp2
            go_loopw [6] (fun z wr => ∃ k : Nat, k ≤ n ∧ z = .int .i64 k ∧ Hid (QE W wr r gb ob cb sz en2 (Q3 sc L i k))) (fun z _ => n - (intOf z).toNat)
            case atStart =>
              exact ⟨0, Nat.zero_le _, rfl, Lib.hid (HE2.out.mono fun j n' xs' hj hp => ⟨hp.1, hp.2.1, fun h => ⟨hp.2.2 h, Nat.zero_le _, by simp⟩⟩)⟩
            case round =>
              obtain ⟨k, hk, rfl, HE3⟩ := hrel
              clear r0 rf0 rl0 b0 bf0 hg hS hP hgbl
              have r0 := HE3.out.blk.cell 0
              have rf0 := HE3.out.blk.frozen 0
              have rl0 := HE3.out.blk.lt
              simp at r0
              rw [hen2] at r0
              obtain ⟨g', off', n', cap', xs3, e3, hg, hn, hS3, hP3⟩ := HE3.out.ent i (by omega)
              rw [e1] at e3
              injection e3 with e3 e4 e5
              injection e3 with e3
              injection e3 with e3 e6
              subst e3
              subst e4
              subst e5
              subst e6
              have HNB := Lib.hid hn
              clear hn
              have hb := HE3.out.sl.form (by omega)
              obtain ⟨_, _, _, ee, hgbl, _, _, hcell, hfr⟩ := hb
              injection ee with ea _ ec
              injection ea with ea
              injection ea with ea eb
              subst ea
              subst eb
              subst ec
              have b0 := hcell i (by omega)
              rw [List.getElem?_eq_getElem (by omega)] at b0
              have bf0 := hfr (ob + i)
              clear hcell hfr
              rw [e1] at b0
              by_cases hkn : k < n
              · have hkz : (k : Int) < (n : Int) := by omega
                obtain ⟨_, _, _, ee, hgg, _, _, hcell, hfr⟩ := hS3.form (by omega)
                injection ee with ea _ ec
                injection ea with ea
                injection ea with ea eb
                subst ea
                subst eb
                subst ec
                have hx3 := hS3.len
                have z0 := hcell k (by omega)
                rw [List.getElem?_eq_getElem (by omega)] at z0
                have zf := hfr (off + k)
                clear hcell hfr
                have HE4 := Lib.hid (HE3.out.put (P' := Q3 sc L i (k + 1)) (k := k) (u := mb sc i) (by omega) e1 hS3 hkn (fun j n' xs' hj hne hp => ⟨hp.1, hp.2.1, fun e => absurd e hne⟩) ⟨fun h => absurd h (Nat.lt_irrefl _), fun h => absurd h (Nat.lt_irrefl _), fun _ => ⟨(hP3.2.2 rfl).1, hkn, by
                  have hm := (hP3.2.2 rfl).2.2
                  rw [List.replicate_succ', ← hm, List.take_succ_eq_append_getElem (by simp; omega)]
                  simp [List.take_set]
                  exact List.set_eq_of_length_le (by simp; omega)⟩⟩)
                clear hP3 hS3
                have hsc0 : 0 < sc := HSL.out.2.2
                go_wp2
                refine Lex.wp_region_text (by kernel_rfl) (by kernel_rfl) ?_
                go_wp2
                rw [mark_eq (by have := HML.out; omega)]
                refine Lex.sq_done (by rfl) ?_
                have hkb : (k : Int) < 5000000 := by have := HNB.out; omega
                go_wp2
                go_roundw
                case measure => simp [intOf]; omega
                case rel => exact ⟨k + 1, by omega, by go_num, Lib.hid (HE4.out.only0 (Only.refl _ _).drew)⟩
              · obtain rfl : k = n := by omega
                have HEN := Lib.hid (show QE W wr r gb ob cb sz en2 (Q1 sc L (i + 1)) from HE3.out.mono2 fun j n' xs' hj hex hxl hp => ⟨fun hji => by
                  by_cases hji2 : j = i
                  · subst hji2
                    obtain ⟨ga, oa, ca, hga⟩ := hex
                    rw [e1] at hga
                    injection hga with _ hga _
                    subst hga
                    have hm := (hp.2.2 rfl).2.2
                    rw [List.take_of_length_le (by omega)] at hm
                    exact ⟨hm, (hp.2.2 rfl).1⟩
                  · exact hp.1 (by omega), fun h => hp.2.1 (by omega)⟩)
                have hib : (i : Int) < 5000000 := by have := HML.out; omega
                go_wp2
                go_roundw
                case measure => simp [intOf]; omega
                case rel => exact ⟨i + 1, en2, by omega, by go_num, hen2, HEN⟩
      · obtain rfl : i = M := by omega
        obtain ⟨wp, hwp⟩ : ∃ x : World, x = wr := ⟨_, rfl⟩
        subst hwp
        have HEM := HE
        go_wp2
        go_loopw [7] (fun z wr => ∃ i : Nat, i ≤ en.length ∧ z = .int .i64 i ∧ Hid (QE W wr r gb ob cb sz en (Q1 sc L en.length))) (fun z _ => en.length - (intOf z).toNat)
        case atStart => exact ⟨0, Nat.zero_le _, rfl, Lib.hid (by rw [hen]; exact HEM.out)⟩
        case round =>
          obtain ⟨i, hi, rfl, HE⟩ := hrel
          clear r0 rf0 rl0
          have r0 := HE.out.blk.cell 0
          have rf0 := HE.out.blk.frozen 0
          have rl0 := HE.out.blk.lt
          simp at r0
          by_cases hiM : i < en.length
          · have hiz : (i : Int) < (en.length : Int) := by omega
            obtain ⟨g, off, n, cap, xs, e1, hg, hn, hS, hP⟩ := HE.out.ent i (by omega)
            have hxs := (hP.1 hiM).1
            subst hxs
            have HNB := Lib.hid hn
            clear hP hn
            have hb := HE.out.sl.form (by omega)
            obtain ⟨_, _, _, ee, hgbl, _, _, hcell, hfr⟩ := hb
            injection ee with ea _ ec
            injection ea with ea
            injection ea with ea eb
            subst ea
            subst eb
            subst ec
            have b0 := hcell i (by omega)
            rw [List.getElem?_eq_getElem (by omega)] at b0
            have bf0 := hfr (ob + i)
            clear hcell hfr
            rw [e1] at b0
            obtain ⟨wq, hwq⟩ : ∃ x : World, x = wr := ⟨_, rfl⟩
            subst hwq
            go_wp2
            go_loopw [8] (fun z wr => ∃ k : Nat, k ≤ n ∧ z = .int .i64 k ∧ Hid (Only [] wq wr)) (fun z _ => n - (intOf z).toNat)
            case atStart => exact ⟨0, Nat.zero_le _, rfl, Lib.hid (Only.refl _ _)⟩
            case round =>
              obtain ⟨k, hk, rfl, HO⟩ := hrel
              have HE5 := Lib.hid (HE.out.only0 HO.out)
              clear r0 rf0 rl0 b0 bf0 hgbl
              have r0 := HE5.out.blk.cell 0
              have rf0 := HE5.out.blk.frozen 0
              have rl0 := HE5.out.blk.lt
              simp at r0
              have hb := HE5.out.sl.form (by omega)
              obtain ⟨_, _, _, ee, hgbl, _, _, hcell, hfr⟩ := hb
              injection ee with ea _ ec
              injection ea with ea
              injection ea with ea eb
              subst ea
              subst eb
              subst ec
              have b0 := hcell i (by omega)
              rw [List.getElem?_eq_getElem (by omega)] at b0
              have bf0 := hfr (ob + i)
              clear hcell hfr
              rw [e1] at b0
              by_cases hkn : k < n
              · have hkz : (k : Int) < (n : Int) := by omega
                have hS5 := hS.only HO.out (fun _ _ => by simp)
                obtain ⟨_, _, _, ee, hgg, _, _, hcell, _⟩ := hS5.form (by omega)
                injection ee with ea _ ec
                injection ea with ea
                injection ea with ea eb
                subst ea
                subst eb
                subst ec
                have m0 := hcell k (by omega)
                rw [List.getElem?_replicate_of_lt hkn] at m0
                have hmk := mark_eq (i := i) (sc := sc) (by have := HML.out; omega)
                have hsc0 : 0 < sc := HSL.out.2.2
                replace m0 : wr.cell? ⟨g, off + k, none⟩ = some (bv (i / sc % 250)) := m0
                obtain ⟨c, hc⟩ : ∃ c, c = i / sc % 250 := ⟨_, rfl⟩
                rw [← hc] at m0 hmk
                have hcc : ((c : Int) != (wrap64 ((i : Int) / (sc : Int))).tmod 250 % 256) = false := by rw [hmk]; simp
                clear hcell hS5 hc hmk
                go_wp2
                refine Lex.wp_region_text (by kernel_rfl) (by kernel_rfl) ?_
                go_wp2
                refine Lex.sq_done (by rfl) ?_
                generalize (wrap64 ((i : Int) / (sc : Int))).tmod 250 % 256 = y at *
                have hkb : (k : Int) < 5000000 := by have := HNB.out; omega
                go_wp2
                go_roundw
                case measure => simp [intOf]; omega
                case rel => exact ⟨k + 1, by omega, by go_num, Lib.hid (HO.out.drew)⟩
              · have hkz : ¬ (k : Int) < (n : Int) := by omega
                have hib : (i : Int) < 5000000 := by have := HML.out; omega
                go_wp2
                go_roundw
                case measure => simp [intOf]; omega
                case rel => exact ⟨i + 1, by omega, by go_num, HE5⟩
          · have hiz : ¬ (i : Int) < (en.length : Int) := by omega
            have HEX := Lib.hid (show QE W wr r gb ob cb sz en (Q1 (sc * 250) (L + 5000) 0) from HE.out.mono fun j n' xs' hj hp => ⟨fun h => absurd h (Nat.not_lt_zero _), fun _ => (hp.1 hj).2⟩)
            have HSX := Lib.hid (show SC (sc * 250) (L + 5000) by
              rcases HSL.out.1 with ⟨rfl, rfl⟩ | ⟨rfl, rfl⟩
              · exact .inr (.inl ⟨rfl, rfl⟩)
              · exact .inr (.inr ⟨rfl, rfl⟩))
            have HSP := Lib.hid HSL.out.2.2
            go_wp2
            go_roundw
            case measure => have := HSP.out; simp [intOf]; omega
            case rel => exact ⟨sc * 250, L + 5000, en, by first | rfl | go_num | (rw [hsw]), hen, HSX, HEX⟩
end Go.Proofs.Ytffdfegelgpniaa
