/-
  The document's own Number.
-/
import Derived.Test.YtbcckaaleoofhaaOb
import Derived.Test.YtbcckaaleoofhaaOd
import Derived.BigQuiet
namespace Go.Proofs.Ytbcckaaleoofhaa
open Go.RowKit Go.Fl

/-- The figure found among the first k. -/
def dvM (c : UInt8) (k : Nat) : Int := match hexVal c with | none => -1 | some j => if j < k then (j : Int) else -1
theorem dv_hit {c : UInt8} {k : Nat} (hk : k < 16) (h : dig k = c) : dvM c (k + 1) = k := by
  unfold dvM; rw [← h, hexVal_dig k hk]; simp
theorem dv_miss {c : UInt8} {k : Nat} (hk : k < 16) (h : dig k ≠ c) : dvM c (k + 1) = dvM c k := by
  unfold dvM
  cases hv : hexVal c with
  | none => rfl
  | some j =>
    have hj := hexVal_lt hv
    have : j ≠ k := fun e => h (e ▸ hj.2)
    simp only
    by_cases h1 : j < k
    · rw [if_pos h1, if_pos (by omega)]
    · rw [if_neg h1, if_neg (by omega)]
theorem dv_zero (c : UInt8) : dvM c 0 = -1 := by unfold dvM; cases hexVal c <;> simp
theorem dv_end (c : UInt8) : dvM c 16 = (match hexVal c with | none => -1 | some j => (j : Int)) := by
  unfold dvM
  cases hv : hexVal c with
  | none => rfl
  | some j => simp only; rw [if_pos (hexVal_lt hv).1]
theorem seg_iff {l : List UInt8} {v : Nat} (hl : l.length = 24) (h : hexFold 0 ((l.drop 4).take 16) = some v) : seg v = l ↔ l.take 4 = segFront ∧ l.drop 20 = segBack := by
  have hm : hexR 16 v = (l.drop 4).take 16 := by
    have := hexFold_hexR _ _ _ h
    rwa [List.length_take, List.length_drop, hl] at this
  constructor
  · rintro rfl
    exact ⟨rfl, rfl⟩
  · rintro ⟨h1, h2⟩
    rw [seg, hm, ← h1, ← h2]
    have e : l.drop 20 = (l.drop 4).drop 16 := by rw [List.drop_drop]
    rw [e, List.take_append_drop, List.take_append_drop]
theorem i64_of_u64 (v : Nat) (h : v < 18446744073709551616) : IntKind.i64.wrap (v : Int) = w64 v := by
  rw [IntKind.wrap_i64]; unfold w64; split <;> omega
theorem num_seg {l : List UInt8} {v : Nat} (hl : l.length = 24) (h : hexFold 0 ((l.drop 4).take 16) = some v) (h1 : 1 ≤ v ∧ v < 9223372036854775808) (hs : seg v = l) : numM l = ((v : Int), true) := by
  have := (seg_iff hl h).1 hs
  unfold numM; rw [if_pos ⟨hl, this.1, this.2⟩, h]; simp only; rw [if_pos h1]
theorem num_not {l : List UInt8} {v : Nat} (hl : l.length = 24) (h : hexFold 0 ((l.drop 4).take 16) = some v) (hs : ¬ (1 ≤ v ∧ v < 9223372036854775808) ∨ seg v ≠ l) : numM l = (0, false) := by
  unfold numM
  split
  · rename_i hc
    rw [h]
    simp only
    rcases hs with hs | hs
    · rw [if_neg hs]
    · exact absurd ((seg_iff hl h).2 ⟨hc.2.1, hc.2.2⟩) hs
  · rfl

set_option maxRecDepth 100000 in
set_option maxHeartbeats 3200000 in
theorem rnumber_gen (l : List UInt8) (w : World) : Calls Try.prog 7 #[.string ⟨l.toArray⟩] w fun e w' => e = .returned (.tuple #[.int .i64 (numM l).1, .bool (numM l).2]) ∧ Only [] w w' := by
  have hsl := str_size l
  by_cases hl : l.length = 24
  · have hsz : (⟨l.toArray⟩ : ByteArray).size = 24 := by rw [str_size, hl]
    have HL := Lib.hid hl
    clear hl hsl
    go_enter Try.func7, Try.ntmps7
    go_wp2
    go_loopw [4, 5] (fun s i wr => ∃ k v : Nat, k ≤ 16 ∧ i = .int .i64 (4 + (k : Int)) ∧ s = .int .u64 (v : Int) ∧ Hid (hexFold 0 (((l.drop 4).take 16).take k) = some v) ∧ Hid (Only [] w wr)) (fun _ i _ => 20 - (intOf i).toNat)
    case atStart => exact ⟨0, 0, by omega, rfl, rfl, Lib.hid rfl, Lib.hid (Only.refl _ _)⟩
    case round =>
      obtain ⟨k, v, hk, rfl, rfl, HV, HO⟩ := hrel
      by_cases hk16 : k < 16
      · have hkz : (k : Int) < 16 := by omega
        have h20 : 4 + (k : Int) < 20 := by omega
        have hkl : 4 + k < l.length := by have := HL.out; omega
        have hks : 4 + k < (⟨l.toArray⟩ : ByteArray).size := by omega
        obtain ⟨c, hc⟩ : ∃ c, l[4 + k] = c := ⟨_, rfl⟩
        have hat : ((⟨l.toArray⟩ : ByteArray)[4 + k]'hks) = c := hc
        have HT := Lib.hid (show ((l.drop 4).take 16).take (k + 1) = ((l.drop 4).take 16).take k ++ [c] by
          rw [List.take_take, List.take_take, Nat.min_eq_left (by omega), Nat.min_eq_left (by omega), List.take_succ_eq_append_getElem (by rw [List.length_drop]; omega), List.getElem_drop, hc])
        have hvb : v < 1152921504606846976 := by
          have := (hexFold_lt _ _ _ HV.out).1
          rw [List.length_take, List.length_take, List.length_drop, HL.out, Nat.min_eq_left (by omega)] at this
          have h2 : 16 ^ k ≤ 16 ^ 15 := Nat.pow_le_pow_right (by omega) (by omega)
          omega
        clear hc
        go_wp2
        go_loopw [6, 7] (fun d j wr => ∃ m : Nat, m ≤ 16 ∧ j = .int .i64 m ∧ d = .int .i64 (dvM c m) ∧ Hid (Only [] w wr)) (fun _ j _ => 16 - (intOf j).toNat)
        case atStart => exact ⟨0, by omega, rfl, by rw [dv_zero], HO⟩
        case round =>
          obtain ⟨m, hm, rfl, rfl, HO2⟩ := hrel
          clear HO
          by_cases hm16 : m < 16
          · have hmz : (m : Int) < 16 := by omega
            have hx := fig_get m hm16
            by_cases hmd : dig m = c
            · have HD := Lib.hid (dv_hit hm16 hmd)
              rw [hmd] at hx
              clear hmd
              go_wp2
              refine Lex.wp_region_text (by kernel_rfl) (by kernel_rfl) ?_
              go_wp2
              refine Lex.sq_done (by rfl) ?_
              go_wp2
              go_roundw
              case measure => simp [intOf]; omega
              case rel => exact ⟨m + 1, by omega, by go_num, by rw [HD.out], Lib.hid HO2.out.drew⟩
            · have hb : (((dig m).toNat : Int) == (c.toNat : Int)) = false := by
                simp only [beq_eq_false_iff_ne, ne_eq]
                intro e
                exact hmd (UInt8.toNat_inj.1 (by omega))
              have HD := Lib.hid (dv_miss hm16 hmd)
              clear hmd
              go_wp2
              refine Lex.wp_region_text (by kernel_rfl) (by kernel_rfl) ?_
              go_wp2
              refine Lex.sq_done (by rfl) ?_
              go_wp2
              go_roundw
              case measure => simp [intOf]; omega
              case rel => exact ⟨m + 1, by omega, by go_num, by rw [HD.out], Lib.hid HO2.out.drew⟩
          · obtain rfl : m = 16 := by omega
            have hde := dv_end c
            cases hd : hexVal c with
            | none =>
              rw [hd] at hde
              simp only at hde
              have HT2 := Lib.hid (show numM l = (0, false) from num_none (k := k + 1) (by rw [HT.out, hexFold_snoc, HV.out, hd]))
              rw [hde]
              clear hd hde
              go_wp2
              go_ret2
              exact ⟨by rw [HT2.out]; rfl, HO2.out⟩
            | some d =>
              rw [hd] at hde
              simp only at hde
              have hd16 := (hexVal_lt hd).1
              have HT2 := Lib.hid (show hexFold 0 (((l.drop 4).take 16).take (k + 1)) = some (v * 16 + d) by rw [HT.out, hexFold_snoc, HV.out, hd])
              rw [hde]
              clear hd hde
              go_wp2
              go_roundw
              case measure => simp [intOf]; omega
              case rel => exact ⟨k + 1, v * 16 + d, by omega, by congr 1, by first | rfl | (congr 1; done) | (congr 1; omega), HT2, HO2⟩
      · obtain rfl : k = 16 := by omega
        have hf := HV.out
        rw [List.take_of_length_le (by rw [List.length_take]; omega)] at hf
        have hv64 : v < 18446744073709551616 := by
          have := (hexFold_lt _ _ _ hf).1
          rw [List.length_take, List.length_drop, HL.out] at this
          simpa using this
        have hcv := i64_of_u64 v hv64
        have hcv2 := hcv
        rw [IntWalk.i64_left] at hcv2
        by_cases h1 : 1 ≤ v ∧ v < 9223372036854775808
        · have hv1 := w64_small h1.2
          rw [hv1] at hcv hcv2
          have HS := Lib.hid (rsegment_ok v wr h1.1 h1.2)
          by_cases hs : seg v = l
          · have HR := Lib.hid (num_seg HL.out hf h1 hs)
            have hb : (seg v == l) = true := by simpa using hs
            clear hf hs hv1 h1
            go_wp2_with fail
            refine HS.out.mono ?_
            clear HS
            rintro e w1 ⟨rfl, ho1⟩
            have HO1 := Lib.hid (HO.out.trans ho1)
            clear ho1
            go_wp2
            go_ret2
            exact ⟨by rw [HR.out]; rfl, HO1.out⟩
          · have HR := Lib.hid (num_not HL.out hf (.inr hs))
            have hb : (seg v == l) = false := by simpa using hs
            clear hf hs hv1 h1
            go_wp2_with fail
            refine HS.out.mono ?_
            clear HS
            rintro e w1 ⟨rfl, ho1⟩
            have HO1 := Lib.hid (HO.out.trans ho1)
            clear ho1
            go_wp2
            go_ret2
            exact ⟨by rw [HR.out]; rfl, HO1.out⟩
        · have hv1 : w64 v < 1 := by unfold w64; split <;> omega
          have HR := Lib.hid (num_not HL.out hf (.inl h1))
          have HS := Lib.hid (rsegment_bad (w64 v) wr hv1)
          clear hf h1
          go_wp2_with fail
          refine HS.out.mono ?_
          clear HS
          rintro e w1 ⟨rfl, ho1⟩
          have HO1 := Lib.hid (HO.out.trans ho1)
          clear ho1
          go_wp2
          go_ret2
          exact ⟨by rw [HR.out]; rfl, HO1.out⟩
  · have HR := Lib.hid (show numM l = (0, false) by unfold numM; rw [if_neg (fun hh => hl hh.1)])
    have hne : (((l.length : Nat) : Int) != 24) = true := by simp; omega
    clear hl
    go_enter Try.func7, Try.ntmps7
    go_wp2
    go_ret2
    exact ⟨by rw [HR.out]; rfl, Only.refl _ _⟩
end Go.Proofs.Ytbcckaaleoofhaa
