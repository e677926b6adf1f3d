/-
  The law's own same: both queues tell the same.
-/
import Derived.Test.YtlkfkdcdokinpaaUa
import Derived.Test.YtlkfkdcdokinpaaRj
import Derived.Test.YtlkfkdcdokinpaaRi
namespace Go.Proofs.Ytlkfkdcdokinpaa
open Go.RowKit Go.Fl

/-- A slice of some content, of a block of its own. -/
def Sl0 (w : World) (v : Value) (n : Nat) : Prop := ∃ xs, Sl w 38 2 v n xs
theorem Sl0.only {w w' : World} {v : Value} {n : Nat} (h : Sl0 w v n) (ho : Only [] w w') : Sl0 w' v n := by
  obtain ⟨xs, h⟩ := h
  exact ⟨xs, h.only ho (by simp)⟩
theorem Sl0.set_ {w : World} {v : Value} {n : Nat} (h : Sl0 w v n) (p : Addr) (u : Value) (hp : p.spot = none) : Sl0 (w.setCell p u) v n := by
  obtain ⟨xs, hl, h⟩ := h
  rcases h with ⟨rfl, rfl⟩ | ⟨g, off, cap, cur, rfl, hh, hc, hm, hs, ht⟩
  · exact ⟨[], Sl.nil _ _ _⟩
  · by_cases hg : p.block = g
    · refine ⟨((cur.setIfInBounds p.off u).toList.drop off).take (n * 2), ?_, .inr ⟨g, off, cap, cur.setIfInBounds p.off u, rfl, ?_, hc, hm, by simpa using hs, rfl⟩⟩
      · have h2 : n * 2 ≤ cap * 2 := Nat.mul_le_mul_right _ hc
        simp only [List.length_take, List.length_drop, Array.length_toList, Array.size_setIfInBounds]
        omega
      · subst hg
        have hB : Blk w p.block 38 cur := hh
        have := hB.set_ p.off u
        rw [show (⟨p.block, p.off, none⟩ : Addr) = p by cases p; simp_all] at this
        exact this
    · exact ⟨xs, hl, .inr ⟨g, off, cap, cur, rfl, (Below.heap_setCell w p u g (fun e => hg e.symm)).trans hh, hc, hm, hs, ht⟩⟩
theorem Sl0.form {w : World} {v : Value} {n i : Nat} (h : Sl0 w v n) (hi : i < n) : ∃ g off cap x y, v = .slice (some ⟨g, off, none⟩) n cap ∧ g < w.heap.size ∧ w.cell? ⟨g, off + i * 2, none⟩ = some x ∧ w.cell? ⟨g, off + i * 2 + 1, none⟩ = some y ∧ (∀ j, w.frozen? ⟨g, j, none⟩ = false) := by
  obtain ⟨xs, h⟩ := h
  have hl := h.len
  obtain ⟨g, off, cap, hv, hg, _, _, hc, hf⟩ := h.form (by omega)
  refine ⟨g, off, cap, xs[i * 2]'(by omega), xs[i * 2 + 1]'(by omega), hv, hg, (hc _ (by omega)).trans (List.getElem?_eq_getElem (by omega)), ?_, hf⟩
  rw [Nat.add_assoc]
  exact (hc _ (by omega)).trans (List.getElem?_eq_getElem (by omega))
theorem Fresh.sl0 {w w' : World} {v : Value} {xs : List Item} (h : Fresh w w' v xs) : Sl0 w' v xs.length := ⟨_, h.1⟩

set_option maxRecDepth 100000 in
set_option maxHeartbeats 3200000 in
theorem same_ok {q r : Nat} {cap bytes : Int} {held line : List Item} {S T : List Nat} (w : World) (hq : QIs w q S cap bytes held line) (hr : RIs w r T cap bytes held line) :
    Calls Try.prog 21 #[.pointer (some ⟨q, 0, none⟩), .pointer (some ⟨r, 0, none⟩)] w fun e w' => e = .returned (.bool true) ∧ Only [] w w' := by
  have HQ := Lib.hid hq
  have HR := Lib.hid hr
  have hL : held.length ≤ 1024 ∧ line.length ≤ 1024 := by
    obtain ⟨iv, lv, h, _⟩ := hr
    exact ⟨by have := h.okh.len; have := h.okh.cap1; omega, h.lenl⟩
  have HL := Lib.hid hL
  obtain ⟨iv, lv, hR, _⟩ := hr
  obtain ⟨ai, ci, hiv, _, _⟩ := hR.I.shape
  obtain ⟨al, cl, hlv, _, _⟩ := hR.L.shape
  have HRo := Lib.hid hR
  clear hq hL hR
  subst hiv
  subst hlv
  go_enter Try.func21, Try.ntmps21
  go_wp2
  go_loopw [5] (fun n wr => ∃ k : Nat, k ≤ 2 ∧ n = .int .i64 k ∧ Hid (Only [] w wr)) (fun n _ => 2 - (intOf n).toNat)
  case atStart => exact ⟨0, by omega, rfl, Lib.hid (Only.refl _ _)⟩
  case round =>
    obtain ⟨k, hk, rfl, HO⟩ := hrel
    by_cases hkl : k < 2
    · have HC1 := Lib.hid (held_ok wr (HQ.out.only HO.out (by simp)))
      go_wp2_with fail
      refine HC1.out.mono ?_
      clear HC1
      rintro e w1 ⟨v1, rfl, hF1, hO1⟩
      have HO1 := Lib.hid (HO.out.trans hO1)
      have HC2 := Lib.hid (line_ok w1 (HQ.out.only HO1.out (by simp)))
      have HF1 := Lib.hid hF1
      clear hF1 hO1
      go_wp2_with fail
      refine HC2.out.mono ?_
      clear HC2
      rintro e w2 ⟨v2, rfl, hF2, hO2⟩
      have HO2 := Lib.hid (HO1.out.trans hO2)
      have HF2 := Lib.hid hF2
      have HS1 := Lib.hid (HF1.out.1.only hO2 (by simp))
      have HC3 := Lib.hid (look_ok w2 (HQ.out.only HO2.out (by simp)))
      simp only [lookV] at HC3
      clear hF2 hO2
      go_wp2_with fail
      refine HC3.out.mono ?_
      clear HC3
      rintro e w3 ⟨rfl, hO3⟩
      have HO3 := Lib.hid (HO2.out.trans hO3)
      have HS13 := Lib.hid (HS1.out.only hO3 (by simp))
      have HS23 := Lib.hid (HF2.out.1.only hO3 (by simp))
      have HC4 := Lib.hid (rlook_ok w3 (HR.out.only HO3.out (by simp)))
      simp only [lookV] at HC4
      clear hO3
      go_wp2_with fail
      refine HC4.out.mono ?_
      clear HC4
      rintro e w4 ⟨rfl, hO4⟩
      have HO4 := Lib.hid (HO3.out.trans hO4)
      have hR4 := HRo.out.only HO4.out (by simp)
      have HS14 := Lib.hid (HS13.out.only hO4 (by simp))
      have HS24 := Lib.hid (HS23.out.only hO4 (by simp))
      have HC5 := Lib.hid (items_ok w4 HS14.out hR4.I (by have := HL.out; omega))
      obtain ⟨hcell, hfz, hlt⟩ := hR4.B.facts
      clear hO4 hR4
      go_wp2_with fail
      refine HC5.out.mono ?_
      clear HC5
      rintro e w5 ⟨rfl, hO5⟩
      have HO5 := Lib.hid (HO4.out.trans hO5)
      have hR5 := HRo.out.only HO5.out (by simp)
      have HS15 := Lib.hid (HS14.out.only hO5 (by simp))
      have HS25 := Lib.hid (HS24.out.only hO5 (by simp))
      have HC6 := Lib.hid (items_ok w5 HS25.out hR5.L (by have := HL.out; omega))
      clear hcell hfz hlt
      obtain ⟨hcell, hfz, hlt⟩ := hR5.B.facts
      clear hO5 hR5
      go_wp2_with fail
      refine HC6.out.mono ?_
      clear HC6
      rintro e w6 ⟨rfl, hO6⟩
      have HO6 := Lib.hid (HO5.out.trans hO6)
      have HA6 : Hid (Sl0 w6 v1 held.length) := Lib.hid ⟨_, HS15.out.only hO6 (by simp)⟩
      have HB6 : Hid (Sl0 w6 v2 line.length) := Lib.hid ⟨_, HS25.out.only hO6 (by simp)⟩
      obtain ⟨a1, c1, hv1, _, _⟩ := HF1.out.1.shape
      obtain ⟨a2, c2, hv2, _, _⟩ := HF2.out.1.shape
      have HN1 : Hid (∀ g, v1.ownBlock = some g → w.heap.size ≤ g) := Lib.hid (fun g hg => Nat.le_trans HO.out.size (HF1.out.2 g hg))
      have HN2 : Hid (∀ g, v2.ownBlock = some g → w.heap.size ≤ g) := Lib.hid (fun g hg => Nat.le_trans HO1.out.size (HF2.out.2 g hg))
      clear hO6 hcell hfz hlt HF1 HF2 HS1 HS13 HS23 HS14 HS24 HS15 HS25 HO1 HO2 HO3 HO4 HO5
      subst hv1
      subst hv2
      have hl1 := HL.out.1
      have hl2 := HL.out.2
      go_wp2
      go_loopw [8] (fun i wr => ∃ j : Nat, j ≤ held.length ∧ i = .int .i64 j ∧ Hid (Only [] w wr) ∧ Hid (Sl0 wr (.slice a1 held.length c1) held.length) ∧ Hid (Sl0 wr (.slice a2 line.length c2) line.length)) (fun i _ => held.length - (intOf i).toNat)
      case atStart => exact ⟨0, Nat.zero_le _, rfl, HO6, HA6, HB6⟩
      case round =>
        obtain ⟨j, hj, rfl, HO7, HA7, HB7⟩ := hrel
        clear HO6 HA6 HB6
        by_cases hjl : j < held.length
        · obtain ⟨g, off, cp, x, y, hv, hg, hx, hy, hf⟩ := HA7.out.form hjl
          injection hv with hva hvl hvc
          subst hva
          subst hvc
          clear hvl
          go_wp2
          go_roundw
          case rel => exact ⟨j + 1, by omega, by go_num, Lib.hid ((HO7.out.setCell (p := ⟨g, off + j * 2, none⟩) (.inr (HN1.out g rfl)) _).setCell (p := ⟨g, off + j * 2 + 1, none⟩) (.inr (HN1.out g rfl)) _), Lib.hid ((HA7.out.set_ _ _ rfl).set_ _ _ rfl), Lib.hid ((HB7.out.set_ _ _ rfl).set_ _ _ rfl)⟩
          case measure => simp [intOf]; omega
        · obtain rfl : j = held.length := by omega
          clear HA7 HN1
          go_wp2
          go_loopw [9] (fun i wr => ∃ j : Nat, j ≤ line.length ∧ i = .int .i64 j ∧ Hid (Only [] w wr) ∧ Hid (Sl0 wr (.slice a2 line.length c2) line.length)) (fun i _ => line.length - (intOf i).toNat)
          case atStart => exact ⟨0, Nat.zero_le _, rfl, HO7, HB7⟩
          case round =>
            obtain ⟨j, hj, rfl, HO8, HB8⟩ := hrel
            clear HO7 HB7
            by_cases hjl : j < line.length
            · obtain ⟨g, off, cp, x, y, hv, hg, hx, hy, hf⟩ := HB8.out.form hjl
              injection hv with hva hvl hvc
              subst hva
              subst hvc
              clear hvl
              go_wp2
              go_roundw
              case rel => exact ⟨j + 1, by omega, by go_num, Lib.hid ((HO8.out.setCell (p := ⟨g, off + j * 2, none⟩) (.inr (HN2.out g rfl)) _).setCell (p := ⟨g, off + j * 2 + 1, none⟩) (.inr (HN2.out g rfl)) _), Lib.hid ((HB8.out.set_ _ _ rfl).set_ _ _ rfl)⟩
              case measure => simp [intOf]; omega
            · obtain rfl : j = line.length := by omega
              go_wp2
              go_roundw
              case rel => exact ⟨k + 1, by omega, by go_num, HO8⟩
              case measure => simp [intOf]; omega
    · obtain rfl : k = 2 := by omega
      go_wp2
      go_ret
      exact ⟨rfl, HO.out⟩
end Go.Proofs.Ytlkfkdcdokinpaa
