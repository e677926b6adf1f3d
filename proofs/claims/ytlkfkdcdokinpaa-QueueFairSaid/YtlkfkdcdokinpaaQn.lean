/-
  The walk of QueueFair: whatever the numbers, it answers true and leaves all that was there.
-/
import Derived.Test.YtlkfkdcdokinpaaQm
import Derived.Deep.DeepCutAuto
namespace Go.Proofs.Ytlkfkdcdokinpaa
open Go.RowKit Go.Fl

theorem recs_cell {w : World} {k n g off cap : Nat} {f : Nat → Nat → Int} (h : Recs w k (.slice (some ⟨g, off, none⟩) n cap) n f) {i j : Nat} (hi : i < n) (hj : j < k) : w.cell? ⟨g, off + (i * k + j), none⟩ = some (.int .i64 (f i j)) := by
  obtain ⟨g', off', cap', hv, _, hh⟩ := h.at_ hi
  injection hv with h1 h2 h3
  simp only [Option.some.injEq, Addr.mk.injEq, and_true] at h1
  obtain ⟨rfl, rfl⟩ := h1
  exact hh j hj
theorem sum_take_succ (l : List Item) (k : Nat) (h : k < l.length) : sum (l.take (k + 1)) = sum (l.take k) + l[k].2 := by rw [take_succ l k h, sum_append]
/-- Behind some rounds over what went out. -/
def InE (w4 : World) (out : Int) (L : List Item) (o s j : Value) (wr : World) : Prop :=
  ∃ k : Nat, k ≤ L.length ∧ o = .int .i64 (out + k) ∧ s = .int .i64 (sum (L.take k)) ∧ j = .int .i64 k ∧ Only [] w4 wr

set_option maxRecDepth 100000 in
set_option maxHeartbeats 6400000 in
theorem fair_walk (cap bytes : Int) (vs vt : Value) (n m : Nat) (f g : Nat → Nat → Int) (w : World) (hs : Recs w 1 vs n f) (ht : Recs w 4 vt m g) :
    Calls Try.prog 3 #[.int .i64 cap, .int .i64 bytes, vs, vt] w fun e w' => e = .returned (.bool true) ∧ Only [] w w' := by
  have HC := Lib.hid (begun_ok w)
  by_cases hm : May cap bytes
  · obtain ⟨sa, sc, hvs, hs1, hs2⟩ := hs.shape
    obtain ⟨ta, tc, hvt, ht1, ht2⟩ := ht.shape
    have hmx : maxLen ≤ 9223372036854775807 := by unfold maxLen; omega
    have HS := Lib.hid hs
    have HT := Lib.hid ht
    have HM := Lib.hid hm
    clear hs ht
    subst hvs
    subst hvt
    go_enter Try.func3, Try.ntmps3
    go_wp2_with fail
    refine HC.out.mono ?_
    rintro e w1 ⟨rfl, ho1⟩
    have HC := Lib.hid (new_ok cap bytes w1 hm)
    have HO1 := Lib.hid ho1
    clear ho1
    go_wp2_with fail
    refine HC.out.mono ?_
    rintro e w2 ⟨q, rfl, hq2⟩
    have H0 : FairE w q cap bytes (.int .i64 0) (.int .i64 0) (.int .i64 0) w2 := ⟨0, 0, 0, [], [], rfl, rfl, rfl, by omega, by omega, by omega, .trans HO1.out (fun g hg => by simp at hg) hq2, ⟨trivial, by simp, by simp, fun x l hx => by simp at hx⟩⟩
    clear hq2
    go_wp2
    go_loopw [11, 12, 13] (fun p o i wr => FairE w q cap bytes p o i wr) (fun _ _ i _ => 400 - (intOf i).toNat)
    case atStart => exact H0
    case round =>
      clear H0
      obtain ⟨put, out, k, held, line, hR⟩ := hrel
      have hp := hR.p
      have ho := hR.o
      have hi := hR.i
      subst hp ho hi
      have hk4 := hR.k400
      have hpk := hR.putk
      have ho0 := hR.out0
      have hcn := hR.F.cnt
      have HQ := Lib.hid hR.Q
      have HF := Lib.hid hR.F
      clear hR
      by_cases hkn : k < n ∧ k < 400
      · obtain ⟨hkn, hk4'⟩ := hkn
        have hS := HS.out.only HQ.out.out
        obtain ⟨gs, os, ks, hvs, _, hcs⟩ := hS.at_ hkn
        have hc0 : wr.cell? ⟨gs, os + k, none⟩ = some (.int .i64 (f k 0)) := by simpa using hcs 0 (by omega)
        injection hvs with hva hvl hvc
        subst hva
        subst hvc
        clear hvl
        have HC := Lib.hid (mine_put put (f k 0) HQ.out)
        have hfp := fair_put (f k 0) HF.out
        rcases hpm : putM cap bytes held line put (f k 0) with ⟨⟨okb, er⟩, held2, line2⟩
        rw [hpm] at HC hfp
        simp only [bi] at HC
        have HFP := Lib.hid hfp
        clear hS hcs hfp hpm
        go_wp2_with fail
        refine HC.out.mono ?_
        rintro e w3 ⟨rfl, hq3⟩
        have HQ3 := Lib.hid hq3
        clear hq3
        go_upto_if 55 with fail
        go_cut [11] (fun p wx => ∃ put2 : Int, p = .int .i64 put2 ∧ w3 = wx ∧ Fair cap bytes held2 line2 put2 out ∧ put2 ≤ put + 1)
        case first =>
          rcases HFP.out with ⟨her, hF3⟩ | ⟨her, hF3⟩
          · have HF3 := Lib.hid hF3
            replace her : er = 0 := her
            subst her
            clear hF3
            go_wp2
            go_meet
            case rel => exact ⟨put + 1, rfl, rfl, HF3.out, by omega⟩
          · have HF3 := Lib.hid hF3
            replace her : er ≠ 0 := her
            clear hF3
            go_wp2
            go_meet
            case rel => exact ⟨put, rfl, rfl, HF3.out, by omega⟩
        case rest =>
          obtain ⟨put2, hp2, hwc, hF3, hpp⟩ := hcut
          subst hp2
          subst hwc
          have hcn3 := hF3.cnt
          have HF3 := Lib.hid hF3
          clear hF3
          go_upto_if 61 with fail
          go_cut [12, 16, 17, 18, 19] (fun o _ _ _ _ wx => ∃ (out2 : Int) (held3 line3 : List Item), o = .int .i64 out2 ∧ 0 ≤ out2 ∧ QStep w wx q [] cap bytes held3 line3 ∧ Fair cap bytes held3 line3 put2 out2)
          case first =>
            by_cases hkm : k < m
            · have hT := HT.out.only HQ3.out.out
              obtain ⟨gt, ot, kt, hvt, _, hct⟩ := hT.at_ hkm
              have ht2 : w3.cell? ⟨gt, ot + k * 4 + 2, none⟩ = some (.int .i64 (g k 2)) := by have := hct 2 (by omega); rwa [← Nat.add_assoc] at this
              have ht3 : w3.cell? ⟨gt, ot + k * 4 + 3, none⟩ = some (.int .i64 (g k 3)) := by have := hct 3 (by omega); rwa [← Nat.add_assoc] at this
              have hgt : gt < w3.heap.size := cell_lt ht2
              injection hvt with hta htl htc
              subst hta
              subst htc
              clear htl
              have HCT := Lib.hid (mine_take (g k 2) (g k 3) (HQ3.out.only ((Only.refl [] w3).drew)))
              have hft := fair_take (g k 2) (g k 3) HF3.out
              rcases htm : takeM cap bytes held2 line2 (g k 2) (g k 3) with ⟨⟨L, M⟩, held3, line3⟩
              rw [htm] at HCT hft
              have HFT := Lib.hid hft
              clear hT hct hft htm
              go_wp2_with fail
              refine Lex.wp_region_at (fn := Try.f3) (k := 14) (by kernel_rfl) r3_14 (by kernel_rfl) ?_
              go_wp2_with fail
              refine HCT.out.mono ?_
              rintro e w4 ⟨v4, v5, rfl, hFr, _, hQ4⟩
              have hT4 := HT.out.only hQ4.out
              have ht2 : w4.cell? ⟨gt, ot + k * 4 + 2, none⟩ = some (.int .i64 (g k 2)) := by have := recs_cell hT4 hkm (show 2 < 4 by omega); rwa [← Nat.add_assoc] at this
              have ht3 : w4.cell? ⟨gt, ot + k * 4 + 3, none⟩ = some (.int .i64 (g k 3)) := by have := recs_cell hT4 hkm (show 3 < 4 by omega); rwa [← Nat.add_assoc] at this
              have hgt4 : gt < w4.heap.size := cell_lt ht2
              have hS4 := hFr.1
              obtain ⟨a4, c4, hv4, _, _⟩ := hS4.shape
              subst hv4
              have HQ4 := Lib.hid hQ4
              have HS4 := Lib.hid hS4
              have H0 : InE w4 out L (.int .i64 out) (.int .i64 0) (.int .i64 0) w4 := ⟨0, by omega, by simp, by simp [sum], rfl, Only.refl _ _⟩
              have hLc : (L.length : Int) ≤ 400 := by have h1 := HFT.out.2.1.cnt; have := HFT.out.2.1.cnt; omega
              have HT2 := Lib.hid ht2
              have HT3 := Lib.hid ht3
              clear hFr hQ4 hS4 hT4 ht2 ht3
              go_wp2
              refine Lex.sq_done (by rfl) ?_
              go_wp2
              go_loopw [12, 18, 19] (fun o s j wr => InE w4 out L o s j wr) (fun _ _ j _ => L.length - (intOf j).toNat)
              case atStart => exact H0
              case round =>
                clear H0
                obtain ⟨j, hj, ho, hsj, hjj, hO5⟩ := hrel
                subst ho hsj hjj
                by_cases hjl : j < L.length
                · have hx : L[j]? = some L[j] := List.getElem?_eq_getElem hjl
                  obtain ⟨g4, o4, c4', hv4, hg4, _, _, hc4, _⟩ := HS4.out.form (by omega)
                  injection hv4 with hva hvl hvc
                  subst hva
                  subst hvc
                  clear hvl
                  have hca := cells_at L j _ hx
                  have hid4 := HFT.out.1.at_ hx
                  have e0 : wr.cell? ⟨g4, o4 + j * 2, none⟩ = some (.int .i64 (out + j)) := (hO5.cell (p := ⟨g4, o4 + j * 2, none⟩) hg4 (by simp)).trans ((hc4 (j * 2) (by omega)).trans (by rw [hca.1, hid4]))
                  have e1 : wr.cell? ⟨g4, o4 + j * 2 + 1, none⟩ = some (.int .i64 L[j].2) := by
                    have := (hO5.cell (p := ⟨g4, o4 + (j * 2 + 1), none⟩) hg4 (by simp)).trans ((hc4 (j * 2 + 1) (by omega)).trans hca.2)
                    rwa [← Nat.add_assoc] at this
                  have hfx := HFT.out.2.2.2.1 L[j] (List.getElem_mem hjl)
                  have hst := sum_take_le (B := 16777216) (by omega) L j (fun x hx => ⟨(HFT.out.2.2.2.1 x hx).1, by have := (HFT.out.2.2.2.1 x hx).2; have := HM.out.2.2.2; omega⟩)
                  have hmm := HM.out.2.2.2
                  have HO5 := Lib.hid hO5
                  have HE := Lib.hid (sum_take_succ L j hjl)
                  clear hO5 hc4 hca hid4 hx
                  go_wp2
                  go_roundw
                  case measure => simp [intOf]; omega
                  case rel => exact ⟨j + 1, by omega, by congr 1; omega, by rw [HE.out], by congr 1, HO5.out.trans (by (repeat (first | with_reducible exact Only.refl _ _ | with_reducible exact Only.refl [] wr | with_reducible refine Only.drew ?_ | with_reducible refine Only.drewN ?_ _ | with_reducible refine Only.alloc ?_ _ | ((with_reducible refine Only.setCell ?_ ?_ _); rotate_left; (focus (first | (left; simp; done) | (right; simp; done) | (right; simp; omega) | (right; omega)))))))⟩
                · obtain rfl : j = L.length := by omega
                  have ht2 := (hO5.cell (p := ⟨gt, ot + k * 4 + 2, none⟩) hgt4 (by simp)).trans HT2.out
                  have ht3 := (hO5.cell (p := ⟨gt, ot + k * 4 + 3, none⟩) hgt4 (by simp)).trans HT3.out
                  have HQ6 := Lib.hid (HQ4.out.only hO5)
                  have hmx := HFT.out.2.2.1
                  clear hO5
                  rw [List.take_length]
                  by_cases hneg : g k 2 < 0
                  · have hl0 : L = [] := List.eq_nil_of_length_eq_zero (by omega)
                    subst hl0
                    simp only [List.length_nil] at *
                    clear hmx
                    go_wp2
                    go_meet
                    case rel => exact ⟨out, held3, line3, by simp, ho0, HQ6.out.only (by (repeat (first | with_reducible exact Only.refl _ _ | with_reducible exact Only.refl [] wr | with_reducible refine Only.drew ?_ | with_reducible refine Only.drewN ?_ _ | with_reducible refine Only.alloc ?_ _ | ((with_reducible refine Only.setCell ?_ ?_ _); rotate_left; (focus (first | (left; simp; done) | (right; simp; done) | (right; simp; omega) | (right; omega))))))), by simpa using HFT.out.2.1⟩
                  · have hle : (L.length : Int) ≤ g k 2 := by omega
                    clear hmx
                    by_cases hL1 : L.length ≤ 1
                    · go_wp2
                      go_meet
                      case rel => exact ⟨out + L.length, held3, line3, rfl, by omega, HQ6.out.only (by (repeat (first | with_reducible exact Only.refl _ _ | with_reducible exact Only.refl [] wr | with_reducible refine Only.drew ?_ | with_reducible refine Only.drewN ?_ _ | with_reducible refine Only.alloc ?_ _ | ((with_reducible refine Only.setCell ?_ ?_ _); rotate_left; (focus (first | (left; simp; done) | (right; simp; done) | (right; simp; omega) | (right; omega))))))), HFT.out.2.1⟩
                    · have hsm := HFT.out.2.2.2.2.resolve_left hL1
                      go_wp2
                      go_meet
                      case rel => exact ⟨out + L.length, held3, line3, rfl, by omega, HQ6.out.only (by (repeat (first | with_reducible exact Only.refl _ _ | with_reducible exact Only.refl [] wr | with_reducible refine Only.drew ?_ | with_reducible refine Only.drewN ?_ _ | with_reducible refine Only.alloc ?_ _ | ((with_reducible refine Only.setCell ?_ ?_ _); rotate_left; (focus (first | (left; simp; done) | (right; simp; done) | (right; simp; omega) | (right; omega))))))), HFT.out.2.1⟩
            · go_wp2
              go_meet
              case rel => exact ⟨out, held2, line2, rfl, ho0, HQ3.out, HF3.out⟩
          case rest =>
            obtain ⟨out2, held3, line3, ho2, ho20, hQ4, hF4⟩ := hcut
            subst ho2
            have HC5 := Lib.hid (mine_look hQ4)
            obtain ⟨hld, hcap1, hqx⟩ := hQ4.facts
            have hl1 := hld.len
            have hl2 := hld.byt
            have hl3 := sum_nonneg hld.sized
            have hl4 := hld.cap1
            have hl5 := hld.byt1
            have hcnt := hF4.cnt
            have HF4 := Lib.hid hF4
            clear hld hF4 hQ4
            go_wp2_with fail
            refine HC5.out.mono ?_
            rintro e w5 ⟨rfl, hQ5, hO5⟩
            have hQ6 : QStep w (w5.alloc (.cells #[.int .i64 held3.length, .int .i64 (sum held3), .int .i64 line3.length] 40)) q [] cap bytes held3 line3 := hQ5.only ((Only.refl _ _).alloc _)
            have HC6 := Lib.hid (mine_line hQ6)
            clear hQ5 hQ6 hO5
            go_wp2_with fail
            refine HC6.out.mono ?_
            rintro e w7 ⟨v7, rfl, hF7, hQ7, hO7⟩
            have hsz6 := hO7.size
            have hX7 := (Blk.new w5 40 #[.int .i64 held3.length, .int .i64 (sum held3), .int .i64 line3.length]).only hO7 (by simp)
            obtain ⟨xc, xf, xlt⟩ := hX7.facts
            have HQ7 := Lib.hid hQ7
            have hS7 := hF7.1
            clear hF7 hQ7 hO7 hX7
            go_upto_region 27 with fail
            have hd1 : (cap < (held3.length : Int)) = False := eq_false (by omega)
            have hd2 : (bytes < sum held3) = False := eq_false (by omega)
            go_cut [173] (fun b wx => b = .bool false ∧ Only [] w7 wx)
            case first =>
              cases line3 with
              | nil =>
                obtain ⟨a7, c7, hv7, _, _⟩ := hS7.shape
                clear hS7
                subst hv7
                simp only [List.length_nil] at *
                refine Lex.wp_region_at (fn := Try.f3) (k := 27) (by kernel_rfl) r3_27 (by kernel_rfl) ?_
                go_wp2
                refine Lex.sq_done (by rfl) ?_
                go_wp2
                go_meet
                case rel => exact ⟨by simp <;> omega, by (repeat (first | with_reducible exact Only.refl _ _ | with_reducible exact Only.refl [] w7 | with_reducible refine Only.drew ?_ | with_reducible refine Only.drewN ?_ _ | with_reducible refine Only.alloc ?_ _ | ((with_reducible refine Only.setCell ?_ ?_ _); rotate_left; (focus (first | (left; simp; done) | (right; simp; done) | (right; simp; omega) | (right; omega))))))⟩
              | cons x l =>
                obtain ⟨h0, hno⟩ := fair_end HF4.out hcap1 rfl
                obtain ⟨g7, o7, c7, hv7, hg7, _, _, hc7, _⟩ := hS7.form (by simp)
                have hx1 : w7.cell? ⟨g7, o7 + 1, none⟩ = some (.int .i64 x.2) := hc7 1 (by simp; omega)
                have hfx := HF4.out.fit x (by simp)
                have hd4 : held3 ≠ [] := fun hh => by rw [hh] at h0; simp at h0
                clear hS7 hc7
                subst hv7
                simp only [List.length_cons] at *
                by_cases hlt : (held3.length : Int) < cap
                · have hd6 : (sum held3 + x.2 ≤ bytes) = False := eq_false (fun hh => hno ⟨hlt, hh⟩)
                  clear hno
                  refine Lex.wp_region_at (fn := Try.f3) (k := 27) (by kernel_rfl) r3_27 (by kernel_rfl) ?_
                  go_wp2
                  refine Lex.sq_done (by rfl) ?_
                  go_wp2
                  go_meet
                  case rel => exact ⟨by simp <;> omega, by (repeat (first | with_reducible exact Only.refl _ _ | with_reducible exact Only.refl [] w7 | with_reducible refine Only.drew ?_ | with_reducible refine Only.drewN ?_ _ | with_reducible refine Only.alloc ?_ _ | ((with_reducible refine Only.setCell ?_ ?_ _); rotate_left; (focus (first | (left; simp; done) | (right; simp; done) | (right; simp; omega) | (right; omega))))))⟩
                · have hd5 : ((held3.length : Int) < cap) = False := eq_false hlt
                  clear hno hlt
                  refine Lex.wp_region_at (fn := Try.f3) (k := 27) (by kernel_rfl) r3_27 (by kernel_rfl) ?_
                  go_wp2
                  refine Lex.sq_done (by rfl) ?_
                  go_wp2
                  go_meet
                  case rel => exact ⟨by simp <;> omega, by (repeat (first | with_reducible exact Only.refl _ _ | with_reducible exact Only.refl [] w7 | with_reducible refine Only.drew ?_ | with_reducible refine Only.drewN ?_ _ | with_reducible refine Only.alloc ?_ _ | ((with_reducible refine Only.setCell ?_ ?_ _); rotate_left; (focus (first | (left; simp; done) | (right; simp; done) | (right; simp; omega) | (right; omega))))))⟩
            case rest =>
              obtain ⟨hb, hwc⟩ := hcut
              subst hb
              have HQ8 := Lib.hid (HQ7.out.only hwc)
              clear hwc
              go_wp2
              go_roundw
              case measure => simp [intOf]; omega
              case rel => exact ⟨put2, out2, k + 1, held3, line3, rfl, rfl, rfl, by omega, by omega, ho20, HQ8.out, HF4.out⟩
      · have HQO := Lib.hid HQ.out.out
        go_wp2
        all_goals
          go_ret
          exact ⟨rfl, by (repeat (first | with_reducible exact Only.refl _ _ | with_reducible exact HQO.out | with_reducible refine Only.drew ?_ | with_reducible refine Only.drewN ?_ _ | with_reducible refine Only.alloc ?_ _ | ((with_reducible refine Only.setCell ?_ ?_ _); rotate_left; (focus (first | (left; simp; done) | (right; simp; done) | (right; simp; omega) | (right; omega))))))⟩
  · have HCN : ∀ w1, Hid (Calls Try.prog 7 #[.int .i64 cap, .int .i64 bytes] w1 fun e w' => e = .returned (.tuple #[.pointer none, .int .i64 1]) ∧ Only [] w1 w') := fun w1 => Lib.hid (new_bad cap bytes w1 hm)
    clear hs ht
    go_enter Try.func3, Try.ntmps3
    go_wp2_with fail
    refine HC.out.mono ?_
    rintro e w1 ⟨rfl, ho1⟩
    have HO1 := Lib.hid ho1
    clear ho1
    go_wp2_with fail
    refine (HCN w1).out.mono ?_
    rintro e w2 ⟨rfl, ho2⟩
    have HO2 := Lib.hid (HO1.out.trans ho2)
    clear ho2
    go_wp2
    go_ret
    exact ⟨rfl, by (repeat (first | with_reducible exact Only.refl _ _ | with_reducible exact HO2.out | with_reducible refine Only.drew ?_ | with_reducible refine Only.drewN ?_ _ | with_reducible refine Only.alloc ?_ _ | ((with_reducible refine Only.setCell ?_ ?_ _); rotate_left; (focus (first | (left; simp; done) | (right; simp; done) | (right; simp; omega) | (right; omega))))))⟩
end Go.Proofs.Ytlkfkdcdokinpaa
