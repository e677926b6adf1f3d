/-
  QueueAll: any calls, in any order: it answers true and leaves all that was there.
-/
import Derived.Test.YtlkfkdcdokinpaaUc
namespace Go.Proofs.Ytlkfkdcdokinpaa
open Go.RowKit Go.Fl


set_option maxRecDepth 100000 in
set_option maxHeartbeats 3200000 in
theorem all_row (w : World) (cap bytes : Int) (v : Value) (n : Nat) (f : Nat → Nat → Int) (h : Recs w 4 v n f) :
    Calls Try.prog 4 #[.int .i64 cap, .int .i64 bytes, v] w fun e w' => e = .returned (.bool true) ∧ Only [] w w' := by
  have HC := Lib.hid (begun_ok w)
  obtain ⟨a, c, hv, hnc, hcm⟩ := h.shape
  have H := Lib.hid h
  clear h
  subst hv
  have hbig : (n : Int) ≤ 9223372036854775807 := by unfold maxLen at hcm; omega
  by_cases hm : May cap bytes
  · go_enter Try.func4, Try.ntmps4
    go_wp2_with fail
    refine HC.out.mono ?_
    clear HC
    rintro e w1 ⟨rfl, ho1⟩
    have HN1 := Lib.hid (new_ok cap bytes w1 hm)
    have HO1 := Lib.hid ho1
    clear ho1
    go_wp2_with fail
    refine HN1.out.mono ?_
    clear HN1
    rintro e w2 ⟨q, rfl, hQ2⟩
    have HN2 := Lib.hid (rnew_ok cap bytes w2 hm)
    have HQ2 := Lib.hid hQ2
    clear hQ2
    go_wp2_with fail
    refine HN2.out.mono ?_
    clear HN2
    rintro e w3 ⟨r, rfl, hR3⟩
    have HA3 := Lib.hid (all_start HO1.out HQ2.out hR3)
    clear hR3
    go_wp2
    go_loopw [11] (fun i wr => ∃ k : Nat, k ≤ 500 ∧ i = .int .i64 k ∧ Hid (AllE w q r cap bytes wr)) (fun i _ => 500 - (intOf i).toNat)
    case atStart => exact ⟨0, by omega, rfl, HA3⟩
    case round =>
      obtain ⟨k, hk, rfl, HE⟩ := hrel
      clear HA3
      obtain ⟨S, T, held, line, hA⟩ := HE.out
      have HA := Lib.hid hA
      clear hA
      by_cases hkn : k < n
      · by_cases hk5 : k < 500
        · obtain ⟨g, off, c', hv, _, hcc⟩ := (H.out.only HA.out.O).at_ hkn
          injection hv with hva hvl hvc
          subst hva
          subst hvc
          clear hvl
          obtain ⟨kd, hkd⟩ : ∃ x, f k 0 = x := ⟨_, rfl⟩
          obtain ⟨id, hid⟩ : ∃ x, f k 1 = x := ⟨_, rfl⟩
          obtain ⟨nn, hnn⟩ : ∃ x, f k 2 = x := ⟨_, rfl⟩
          obtain ⟨bb, hbb⟩ : ∃ x, f k 3 = x := ⟨_, rfl⟩
          have c0 : wr.cell? ⟨g, off + k * 4, none⟩ = some (.int .i64 kd) := hkd ▸ hcc 0 (by omega)
          have c1 : wr.cell? ⟨g, off + k * 4 + 1, none⟩ = some (.int .i64 id) := hid ▸ hcc 1 (by omega)
          have c2 : wr.cell? ⟨g, off + k * 4 + 2, none⟩ = some (.int .i64 nn) := hnn ▸ hcc 2 (by omega)
          have c3 : wr.cell? ⟨g, off + k * 4 + 3, none⟩ = some (.int .i64 bb) := hbb ▸ hcc 3 (by omega)
          have HA1 := Lib.hid (HA.out.only ((Only.refl [] wr).alloc (.cells #[.int .i64 kd, .int .i64 id, .int .i64 nn, .int .i64 bb] 36)))
          have HX1 := Lib.hid (show Blk (wr.alloc (.cells #[.int .i64 kd, .int .i64 id, .int .i64 nn, .int .i64 bb] 36)) wr.heap.size 36 #[.int .i64 kd, .int .i64 id, .int .i64 nn, .int .i64 bb] from Blk.new _ _ _)
          have HXS := Lib.hid (show wr.heap.size ∉ S from fun hh => by have := (HA.out.B.bs _ hh).2; omega)
          have HT1 := Lib.hid (show ∀ g ∈ T, g < (wr.alloc (.cells #[.int .i64 kd, .int .i64 id, .int .i64 nn, .int .i64 bb] 36)).heap.size from fun g hg => (HA1.out.B.bt g hg).2)
          clear hcc hkd hid hnn hbb
          by_cases hk1 : kd = 1
          · subst hk1
            have HP := Lib.hid (put_ok id nn _ HA1.out.B.Q)
            simp only [bi] at HP
            go_wp2_with fail
            refine HP.out.mono ?_
            clear HP
            rintro e w4 ⟨rfl, hQ4⟩
            obtain ⟨S4, hH4, hoS⟩ := HA1.out.half hQ4
            obtain ⟨xc, xf, xlt⟩ := (HX1.out.only hoS HXS.out).facts
            have HP := Lib.hid (rput_ok id nn w4 hH4.B.R)
            simp only [bi] at HP
            have HH4 := Lib.hid hH4
            clear hQ4 hH4 hoS
            go_wp2_with fail
            refine HP.out.mono ?_
            clear HP
            rintro e w5 ⟨rfl, hR5⟩
            obtain ⟨T5, hA5, _⟩ := HH4.out.all hR5
            have HA5 := Lib.hid hA5
            clear hA5 hR5 xc xf xlt
            have HS := Lib.hid (same_ok w5 HA5.out.B.Q HA5.out.B.R)
            go_wp2_with fail
            refine HS.out.mono ?_
            clear HS
            rintro e w9 ⟨rfl, ho9⟩
            have HA9 := Lib.hid (HA5.out.only ho9)
            clear ho9
            go_wp2
            go_roundw
            case measure => simp [intOf]; omega
            case rel => exact ⟨k + 1, by omega, by go_num, Lib.hid ⟨_, _, _, _, HA9.out⟩⟩
          · by_cases hk2 : kd = 2
            · subst hk2
              have HL := Lib.hid (takeM_len (cap := cap) (bytes := bytes) nn bb HA1.out.B.len)
              have HP := Lib.hid (take_ok nn bb _ HA1.out.B.Q)
              go_wp2_with fail
              refine HP.out.mono ?_
              clear HP
              rintro e w4 ⟨v4, u4', rfl, hF4, hG4, hQ4⟩
              obtain ⟨S4, hH4, hoS⟩ := HA1.out.half hQ4
              obtain ⟨xc, xf, xlt⟩ := (HX1.out.only hoS HXS.out).facts
              have HP := Lib.hid (rtake_ok nn bb w4 hH4.B.R)
              have HH4 := Lib.hid hH4
              have HF4 := Lib.hid hF4
              have HG4 := Lib.hid hG4
              clear hQ4 hH4 hoS hF4 hG4
              go_wp2_with fail
              refine HP.out.mono ?_
              clear HP
              rintro e w5 ⟨v5, u5', rfl, hF5, hG5, hR5⟩
              obtain ⟨T5, hA5, hoT⟩ := HH4.out.all hR5
              have HA5 := Lib.hid hA5
              have HF45 := Lib.hid (HH4.out.keep HF4.out.1 HF4.out.2 HT1.out hoT)
              have HG45 := Lib.hid (HH4.out.keep HG4.out.1 HG4.out.2 HT1.out hoT)
              have HG5 := Lib.hid hG5
              have HP := Lib.hid (items_ok w5 HF45.out hF5.1 HL.out.1)
              clear hA5 hR5 hoT hF5 hG5 xc xf xlt HF4 HG4
              go_wp2_with fail
              refine HP.out.mono ?_
              clear HP
              rintro e w6 ⟨rfl, ho6⟩
              have HA6 := Lib.hid (HA5.out.only ho6)
              have HP := Lib.hid (ids_ok w6 (HG45.out.only ho6 (by simp)) (HG5.out.1.only ho6 (by simp)) HL.out.2)
              clear ho6 HA5 HG45 HG5 HF45
              go_wp2_with fail
              refine HP.out.mono ?_
              clear HP
              rintro e w7 ⟨rfl, ho7⟩
              have HA7 := Lib.hid (HA6.out.only ho7)
              clear ho7 HA6
              have HS := Lib.hid (same_ok w7 HA7.out.B.Q HA7.out.B.R)
              go_wp2_with fail
              refine HS.out.mono ?_
              clear HS
              rintro e w9 ⟨rfl, ho9⟩
              have HA9 := Lib.hid (HA7.out.only ho9)
              clear ho9
              go_wp2
              go_roundw
              case measure => simp [intOf]; omega
              case rel => exact ⟨k + 1, by omega, by go_num, Lib.hid ⟨_, _, _, _, HA9.out⟩⟩
            · by_cases hk3 : kd = 3
              · subst hk3
                have HL := Lib.hid (leaveM_len (cap := cap) (bytes := bytes) id HA1.out.B.len)
                have HP := Lib.hid (leave_ok id _ HA1.out.B.Q)
                go_wp2_with fail
                refine HP.out.mono ?_
                clear HP
                rintro e w4 ⟨v4, rfl, hF4, hQ4⟩
                obtain ⟨S4, hH4, hoS⟩ := HA1.out.half hQ4
                obtain ⟨xc, xf, xlt⟩ := (HX1.out.only hoS HXS.out).facts
                have HP := Lib.hid (rleave_ok id w4 hH4.B.R)
                have HH4 := Lib.hid hH4
                have HF4 := Lib.hid hF4
                clear hQ4 hH4 hoS hF4
                go_wp2_with fail
                refine HP.out.mono ?_
                clear HP
                rintro e w5 ⟨v5, rfl, hF5, hR5⟩
                obtain ⟨T5, hA5, hoT⟩ := HH4.out.all hR5
                have HA5 := Lib.hid hA5
                have HF45 := Lib.hid (HH4.out.keep HF4.out.1 HF4.out.2 HT1.out hoT)
                have HP := Lib.hid (ids_ok w5 HF45.out hF5.1 HL.out)
                clear hA5 hR5 hoT hF5 xc xf xlt HF4 HF45
                go_wp2_with fail
                refine HP.out.mono ?_
                clear HP
                rintro e w7 ⟨rfl, ho7⟩
                have HA7 := Lib.hid (HA5.out.only ho7)
                clear ho7 HA5
                have HS := Lib.hid (same_ok w7 HA7.out.B.Q HA7.out.B.R)
                go_wp2_with fail
                refine HS.out.mono ?_
                clear HS
                rintro e w9 ⟨rfl, ho9⟩
                have HA9 := Lib.hid (HA7.out.only ho9)
                clear ho9
                go_wp2
                go_roundw
                case measure => simp [intOf]; omega
                case rel => exact ⟨k + 1, by omega, by go_num, Lib.hid ⟨_, _, _, _, HA9.out⟩⟩
              · by_cases hk4 : kd = 4
                · subst hk4
                  have HL := Lib.hid (show (idsOf (held ++ line)).length ≤ 4096 by have := HA1.out.B.len; simp [idsOf]; omega)
                  have HP := Lib.hid (clear_ok _ HA1.out.B.Q)
                  go_wp2_with fail
                  refine HP.out.mono ?_
                  clear HP
                  rintro e w4 ⟨v4, rfl, hF4, hQ4⟩
                  obtain ⟨S4, hH4, hoS⟩ := HA1.out.half hQ4
                  have HP := Lib.hid (rclear_ok w4 hH4.B.R)
                  have HH4 := Lib.hid hH4
                  have HF4 := Lib.hid hF4
                  clear hQ4 hH4 hoS hF4
                  go_wp2_with fail
                  refine HP.out.mono ?_
                  clear HP
                  rintro e w5 ⟨v5, rfl, hF5, hR5⟩
                  obtain ⟨T5, hA5, hoT⟩ := HH4.out.all hR5
                  have HA5 := Lib.hid hA5
                  have HF45 := Lib.hid (HH4.out.keep HF4.out.1 HF4.out.2 HT1.out hoT)
                  have HP := Lib.hid (ids_ok w5 HF45.out hF5.1 HL.out)
                  clear hA5 hR5 hoT hF5 HF4 HF45
                  go_wp2_with fail
                  refine HP.out.mono ?_
                  clear HP
                  rintro e w7 ⟨rfl, ho7⟩
                  have HA7 := Lib.hid (HA5.out.only ho7)
                  clear ho7 HA5
                  have HS := Lib.hid (same_ok w7 HA7.out.B.Q HA7.out.B.R)
                  go_wp2_with fail
                  refine HS.out.mono ?_
                  clear HS
                  rintro e w9 ⟨rfl, ho9⟩
                  have HA9 := Lib.hid (HA7.out.only ho9)
                  clear ho9
                  go_wp2
                  go_roundw
                  case measure => simp [intOf]; omega
                  case rel => exact ⟨k + 1, by omega, by go_num, Lib.hid ⟨_, _, _, _, HA9.out⟩⟩
                · have HA2 := HA1
                  have HS := Lib.hid (same_ok (wr.alloc (.cells #[.int .i64 kd, .int .i64 id, .int .i64 nn, .int .i64 bb] 36)) HA2.out.B.Q HA2.out.B.R)
                  go_wp2_with fail
                  refine HS.out.mono ?_
                  clear HS
                  rintro e w9 ⟨rfl, ho9⟩
                  have HA9 := Lib.hid (HA2.out.only ho9)
                  clear ho9
                  go_wp2
                  go_roundw
                  case measure => simp [intOf]; omega
                  case rel => exact ⟨k + 1, by omega, by go_num, Lib.hid ⟨_, _, _, _, HA9.out⟩⟩
        · go_wp2
          go_ret
          exact ⟨rfl, HA.out.O⟩
      · go_wp2
        go_ret
        exact ⟨rfl, HA.out.O⟩
  · go_enter Try.func4, Try.ntmps4
    go_wp2_with fail
    refine HC.out.mono ?_
    clear HC
    rintro e w1 ⟨rfl, ho1⟩
    have HN1 := Lib.hid (new_bad cap bytes w1 hm)
    have HO1 := Lib.hid ho1
    clear ho1
    go_wp2_with fail
    refine HN1.out.mono ?_
    clear HN1
    rintro e w2 ⟨rfl, ho2⟩
    have HN2 := Lib.hid (rnew_bad cap bytes w2 hm)
    have HO2 := Lib.hid (HO1.out.trans ho2)
    clear ho2
    go_wp2_with fail
    refine HN2.out.mono ?_
    clear HN2
    rintro e w3 ⟨rfl, ho3⟩
    have HO3 := Lib.hid (HO2.out.trans ho3)
    clear ho3
    go_wp2
    go_ret
    exact ⟨rfl, by (repeat (first | with_reducible exact Only.refl _ _ | with_reducible exact HO3.out | with_reducible refine Only.drew ?_ | with_reducible refine Only.drewN ?_ _ | with_reducible refine Only.alloc ?_ _ | ((with_reducible refine Only.setCell ?_ ?_ _); rotate_left; (focus (first | (left; simp; done) | (right; simp; done) | (right; simp; omega) | (right; omega))))))⟩
end Go.Proofs.Ytlkfkdcdokinpaa
