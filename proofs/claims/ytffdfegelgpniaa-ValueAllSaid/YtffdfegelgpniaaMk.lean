/-
  The document's answers for values: what is zero, sizes.
-/
import Derived.Test.YtffdfegelgpniaaZKa
set_option linter.unusedSimpArgs false
set_option linter.unusedVariables false
set_option linter.unusedSimpArgs false
set_option linter.unusedVariables false
namespace Go.Proofs.Ytffdfegelgpniaa
open Go.RowKit Go.Fl

theorem loop_len (t : ByteArray) : ∀ (n i : Nat) (r : List UInt8), t.size - i = n → (ByteArray.toList.loop t i r).length = r.length + n := by
  intro n
  induction n with
  | zero =>
    intro i r h
    unfold ByteArray.toList.loop
    rw [if_neg (by omega)]
    simp
  | succ n ih =>
    intro i r h
    unfold ByteArray.toList.loop
    rw [if_pos (by omega), ih (i + 1) _ (by omega)]
    simp
    omega
theorem toList_len (t : ByteArray) : t.toList.length = t.size := by
  unfold ByteArray.toList
  rw [loop_len t t.size 0 [] (by omega)]
  simp
theorem toList_nil {t : ByteArray} : t.toList = [] ↔ t.size = 0 := by
  rw [← toList_len, List.length_eq_zero_iff]
theorem isEmpty_nil {t : ByteArray} : t.toList.isEmpty = decide (t.size = 0) := by
  by_cases h : t.size = 0
  · rw [toList_nil.2 h, decide_eq_true h]; rfl
  · rw [decide_eq_false h]
    cases hl : t.toList with
    | nil => exact absurd (toList_nil.1 hl) h
    | cons a l => rfl
/-- Is what a value's kind does not use zero? -/
def zeroB (k i : Int) (r : Nat) (t : ByteArray) (n : Nat) : Bool :=
  (decide (k = 2) || decide (k = 3) || decide (i = 0)) && (decide (k = 4) || decide (r = 0)) && (decide (k = 5) || decide (t.size = 0)) && (decide (k = 6) || decide (n = 0))
set_option maxRecDepth 100000 in
set_option maxHeartbeats 1600000 in
theorem zero_ok (w : World) (k i : Int) (r : Nat) (t : ByteArray) (a : Option Addr) (n cap : Nat) : Calls Try.prog 65 #[.agg #[iv k, iv i, fv r, .string t, .slice a n cap]] w fun e w' => e = .returned (.bool (zeroB k i r t n)) ∧ Only [] w w' := by
  unfold zeroB
  have hn : ((n : Int) == 0) = decide (n = 0) := by
    by_cases h : n = 0
    · subst h; rfl
    · rw [decide_eq_false h, beq_eq_false_iff_ne]; omega
  by_cases k4 : k = 4
  · subst k4
    go_enter Try.func65, Try.ntmps65
    go_wp2
    all_goals
      refine bodyPost_ret (results_tmp rfl _ _ _) rfl ⟨?_, (Only.refl _ _).alloc _⟩
      simp_all [isEmpty_nil, toList_nil]
  · have k4z : (k != 4) = true := by rw [bne_iff_ne]; exact k4
    by_cases k2 : k = 2
    · subst k2
      go_enter Try.func65, Try.ntmps65
      go_wp2_with fail
      refine (bits_ok _ r 0).mono ?_
      rintro e w1 ⟨rfl, rfl⟩
      go_wp2
      all_goals
        refine bodyPost_ret (results_tmp rfl _ _ _) rfl ⟨?_, (Only.refl _ _).alloc _⟩
        simp_all [isEmpty_nil, toList_nil]
    by_cases k3 : k = 3
    · subst k3
      go_enter Try.func65, Try.ntmps65
      go_wp2_with fail
      refine (bits_ok _ r 0).mono ?_
      rintro e w1 ⟨rfl, rfl⟩
      go_wp2
      all_goals
        refine bodyPost_ret (results_tmp rfl _ _ _) rfl ⟨?_, (Only.refl _ _).alloc _⟩
        simp_all [isEmpty_nil, toList_nil]
    have k2z : (k != 2) = true := by rw [bne_iff_ne]; exact k2
    have k3z : (k != 3) = true := by rw [bne_iff_ne]; exact k3
    by_cases i0 : i = 0
    · subst i0
      go_enter Try.func65, Try.ntmps65
      go_wp2_with fail
      refine (bits_ok _ r 0).mono ?_
      rintro e w1 ⟨rfl, rfl⟩
      go_wp2
      all_goals
        refine bodyPost_ret (results_tmp rfl _ _ _) rfl ⟨?_, (Only.refl _ _).alloc _⟩
        simp_all [isEmpty_nil, toList_nil]
    · have i0z : (i == 0) = false := by rw [beq_eq_false_iff_ne]; exact i0
      go_enter Try.func65, Try.ntmps65
      go_wp2
      all_goals
        refine bodyPost_ret (results_tmp rfl _ _ _) rfl ⟨?_, (Only.refl _ _).alloc _⟩
        simp_all [isEmpty_nil, toList_nil]
mutual
/-- What the document's size answers. -/
def V.rsize : V → Nat → Int → Int
  | .mk k i r t l, deep, left =>
    if k < 1 ∨ 6 < k ∨ zeroB k i r t l.length = false ∨ (k = 2 ∧ (i < 0 ∨ 1 < i)) then -1
    else if k = 6 ∧ deep = 8 then -1
    else rsizes l (deep + 1) (left - 1 - (if k = 5 then (t.size : Int) else 0))
def rsizes : List V → Nat → Int → Int
  | [], _, left => left
  | v :: l, deep, left => if left < 0 then left else rsizes l deep (v.rsize deep left)
end
theorem rsizes_neg : ∀ (l : List V) (deep : Nat) (left : Int), left < 0 → rsizes l deep left = left
  | [], _, _, _ => rfl
  | v :: l, deep, left, h => by unfold rsizes; rw [if_pos h]
theorem rsizes_append : ∀ (a b : List V) (deep : Nat) (left : Int), rsizes (a ++ b) deep left = rsizes b deep (rsizes a deep left)
  | [], _, _, _ => rfl
  | v :: a, b, deep, left => by
    by_cases h : left < 0
    · rw [rsizes_neg _ _ _ h, rsizes_neg (v :: a) _ _ h, rsizes_neg _ _ _ h]
    · simp only [List.cons_append, rsizes, if_neg h, rsizes_append a b]
mutual
/-- It is what take leaves, where take takes; else below 0. -/
theorem take_rsize : ∀ (v : V) (nest : Nat) (room : Int), nest ≤ 8 → (match (v.take nest room).1 with | some _ => v.rsize nest room = (v.take nest room).2 ∧ 0 ≤ v.rsize nest room | none => v.rsize nest room < 0)
  | .mk k i r t l, nest, room, hn => by
    have hzb : zeroB k i r t l.length = true ↔ ((k = 2 ∨ k = 3 ∨ i = 0) ∧ (k = 4 ∨ r = 0) ∧ (k = 5 ∨ t.size = 0) ∧ (k = 6 ∨ l.length = 0)) := by
      unfold zeroB
      simp only [Bool.and_eq_true, Bool.or_eq_true, decide_eq_true_eq]
      omega
    unfold V.take V.rsize
    by_cases hb : bad k i r t l.length (room - 1) = true
    · rw [if_pos hb]
      dsimp only
      unfold bad at hb
      simp only [Bool.or_eq_true, Bool.and_eq_true, decide_eq_true_eq] at hb
      by_cases hc : k < 1 ∨ 6 < k ∨ zeroB k i r t l.length = false ∨ (k = 2 ∧ (i < 0 ∨ 1 < i))
      · rw [if_pos hc]; omega
      · rw [if_neg hc]
        by_cases h8 : k = 6 ∧ nest = 8
        · rw [if_pos h8]; omega
        · rw [if_neg h8]
          have hz : zeroB k i r t l.length = true := by
            cases h : zeroB k i r t l.length
            · exact absurd (.inr (.inr (.inl h))) hc
            · rfl
          have hz2 := hzb.1 hz
          have hneg : (room - 1 - (if k = 5 then (t.size : Int) else 0)) < 0 := by split <;> omega
          rw [rsizes_neg _ _ _ hneg]
          exact hneg
    · rw [if_neg hb]
      unfold bad at hb
      simp only [Bool.or_eq_true, Bool.and_eq_true, decide_eq_true_eq] at hb
      have hz : zeroB k i r t l.length = true := hzb.2 (by omega)
      have hcond : 1 ≤ k ∧ k ≤ 6 → ¬ (k = 2 ∧ (i < 0 ∨ 1 < i)) → ¬ (k < 1 ∨ 6 < k ∨ zeroB k i r t l.length = false ∨ (k = 2 ∧ (i < 0 ∨ 1 < i))) := by
        rw [hz]
        intro q1 q2 q3
        rcases q3 with q3 | q3 | q3 | q3
        · omega
        · omega
        · cases q3
        · exact q2 q3
      by_cases k6 : k = 6
      · rw [if_neg (by omega), if_neg (by omega), if_neg (by omega), if_neg (by omega), if_neg (by omega), if_pos k6]
        rw [if_neg (hcond (by omega) (by omega))]
        by_cases h8 : 8 < nest + 1
        · rw [if_pos h8]
          dsimp only
          rw [if_pos (by omega)]
          omega
        · rw [if_neg h8, if_neg (by omega), if_neg (by omega)]
          have ih := takes_rsize l (nest + 1) (room - 1) (by omega) (by omega)
          simp only [Int.sub_zero]
          cases hh : (takes l (nest + 1) (room - 1)).1 with
          | none => rw [hh] at ih; exact ih
          | some xs => rw [hh] at ih; exact ih
      · obtain rfl : l = [] := List.length_eq_zero_iff.1 (by omega)
        rw [if_neg (show ¬ (k = 6 ∧ nest = 8) by omega)]
        simp only [rsizes]
        by_cases k1 : k = 1
        · rw [if_pos k1, if_neg (hcond (by omega) (by omega)), if_neg (by omega)]
          exact ⟨by show room - 1 - 0 = room - 1; omega, by omega⟩
        by_cases k2 : k = 2
        · rw [if_neg k1, if_pos k2]
          by_cases h01 : i = 0 ∨ i = 1
          · rw [if_pos h01, if_neg (hcond (by omega) (by omega)), if_neg (by omega)]
            exact ⟨by show room - 1 - 0 = room - 1; omega, by omega⟩
          · rw [if_neg h01, if_pos (by omega)]
            show (-1 : Int) < 0
            omega
        by_cases k3 : k = 3
        · rw [if_neg k1, if_neg k2, if_pos k3, if_neg (hcond (by omega) (by omega)), if_neg (by omega)]
          exact ⟨by show room - 1 - 0 = room - 1; omega, by omega⟩
        by_cases k4 : k = 4
        · rw [if_neg k1, if_neg k2, if_neg k3, if_pos k4, if_neg (hcond (by omega) (by omega)), if_neg (by omega)]
          exact ⟨by show room - 1 - 0 = room - 1; omega, by omega⟩
        by_cases k5 : k = 5
        · rw [if_neg k1, if_neg k2, if_neg k3, if_neg k4, if_pos k5, if_neg (hcond (by omega) (by omega)), if_pos k5]
          by_cases ht : 0 ≤ room - 1 - (t.size : Int)
          · rw [if_pos ht]
            exact ⟨rfl, ht⟩
          · rw [if_neg ht]
            show room - 1 - (t.size : Int) < 0
            omega
        · rw [if_neg k1, if_neg k2, if_neg k3, if_neg k4, if_neg k5, if_neg k6, if_pos (by omega)]
          show (-1 : Int) < 0
          omega
theorem takes_rsize : ∀ (l : List V) (nest : Nat) (room : Int), nest ≤ 8 → 0 ≤ room → (match (takes l nest room).1 with | some _ => rsizes l nest room = (takes l nest room).2 ∧ 0 ≤ rsizes l nest room | none => rsizes l nest room < 0)
  | [], nest, room, hn, h0 => by exact ⟨rfl, h0⟩
  | v :: l, nest, room, hn, h0 => by
    have ih := take_rsize v nest room hn
    simp only [rsizes, if_neg (show ¬ room < 0 by omega)]
    cases hh : v.take nest room with
    | mk a b =>
      rw [hh] at ih
      cases a with
      | none =>
        simp only [takes, hh]
        rw [rsizes_neg _ _ _ ih]
        exact ih
      | some y =>
        simp only [takes, hh]
        dsimp only at ih
        rw [ih.1]
        have ih2 := takes_rsize l nest b hn (by omega)
        cases hl : (takes l nest b).1 with
        | none => rw [hl] at ih2; exact ih2
        | some ys => rw [hl] at ih2; exact ih2
end
end Go.Proofs.Ytffdfegelgpniaa
/-
  The document's sizes: the walk.
-/
set_option linter.unusedSimpArgs false
set_option linter.unusedVariables false
namespace Go.Proofs.Ytffdfegelgpniaa
open Go.RowKit Go.Fl

mutual
theorem rsize_le : ∀ (v : V) (deep : Nat) (left : Int), 0 ≤ left → v.rsize deep left ≤ left
  | .mk k i r t l, deep, left, h => by
    unfold V.rsize
    split
    · omega
    · split
      · omega
      · have := rsizes_le l (deep + 1) (left - 1 - (if k = 5 then (t.size : Int) else 0))
        split at this <;> (rename_i hk; simp only [hk, if_true, if_false] at *; omega)
theorem rsizes_le : ∀ (l : List V) (deep : Nat) (left : Int), rsizes l deep left ≤ left
  | [], _, left => Int.le_refl _
  | v :: l, deep, left => by
    unfold rsizes
    split
    · exact Int.le_refl _
    · have h1 := rsize_le v deep left (by omega)
      have h2 := rsizes_le l deep (v.rsize deep left)
      omega
end
def RsOk (v : V) : Prop := ∀ (w : World) (F : Nat → Prop) (cs : List Value) (deep : Nat) (left : Int), VIs w F v cs → deep ≤ 8 → 0 ≤ left → left ≤ 65536 →
  Calls Try.prog 46 #[.agg cs.toArray, iv deep, iv left] w fun e w' => e = .returned (iv (v.rsize deep left)) ∧ Only [] w w'
set_option maxRecDepth 100000 in
set_option maxHeartbeats 3200000 in
theorem rs_step (v : V) (H : ∀ x ∈ v.kids, RsOk x) : RsOk v := by
  intro w F cs deep left hv hd h0 h1
  cases hv with
  | @mk k i r t l a cap css wk wi wr wt hlen hmax hcell hvs =>
  have HC := Lib.hid hcell
  have HV := Lib.hid hvs
  have HH := Lib.hid H
  clear hcell hvs H
  have hlm : l.length ≤ maxLen := by omega
  unfold maxLen at hlm wt
  have HF := Lib.hid (show (V.mk k i r t l).rsize deep left = if k < 1 ∨ 6 < k ∨ zeroB k i r t l.length = false ∨ (k = 2 ∧ (i < 0 ∨ 1 < i)) then -1 else if k = 6 ∧ deep = 8 then -1 else rsizes l (deep + 1) (left - 1 - (if k = 5 then (t.size : Int) else 0)) from rfl)
  obtain ⟨w0, hw0⟩ : ∃ x : World, x = w.alloc (.cells #[iv k, iv i, fv r, .string t, .slice a l.length cap] 33) := ⟨_, rfl⟩
  have HB0 := Lib.hid (show Blk w0 w.heap.size 33 #[iv k, iv i, fv r, .string t, .slice a l.length cap] by rw [hw0]; exact Blk.new _ _ _)
  have HO0 := Lib.hid (show Only [] w w0 by rw [hw0]; exact (Only.refl _ w).alloc _)
  have HS0 := Lib.hid hw0
  clear hw0
  by_cases k1 : k < 1
  · have HF1 := Lib.hid (HF.out.trans (if_pos (.inl k1)))
    rw [HF1.out]
    go_enter Try.func46, Try.ntmps46
    go_wp2
    exact bodyPost_ret (results_tmp rfl _ _ _) rfl ⟨rfl, (Only.refl _ w).alloc _⟩
  by_cases k6 : 6 < k
  · have HF1 := Lib.hid (HF.out.trans (if_pos (.inr (.inl k6))))
    rw [HF1.out]
    go_enter Try.func46, Try.ntmps46
    go_wp2
    exact bodyPost_ret (results_tmp rfl _ _ _) rfl ⟨rfl, (Only.refl _ w).alloc _⟩
  have HQ := Lib.hid (zero_ok w0 k i r t a l.length cap)
  cases hz : zeroB k i r t l.length
  · rw [hz] at HQ
    have HF1 := Lib.hid (HF.out.trans (if_pos (.inr (.inr (.inl hz)))))
    rw [HF1.out]
    clear hz
    go_enter Try.func46, Try.ntmps46
    go_wp2_with fail
    rw [← HS0.out]
    refine HQ.out.mono ?_
    clear HQ
    rintro e w2 ⟨rfl, ho⟩
    have HO2 := Lib.hid (HO0.out.trans ho)
    clear ho
    go_wp2
    exact bodyPost_ret (results_tmp rfl _ _ _) rfl ⟨rfl, HO2.out⟩
  rw [hz] at HQ
  by_cases hi : k = 2 ∧ (i < 0 ∨ 1 < i)
  · have HF1 := Lib.hid (HF.out.trans (if_pos (.inr (.inr (.inr hi)))))
    rw [HF1.out]
    obtain ⟨rfl, hi⟩ := hi
    clear hz
    go_enter Try.func46, Try.ntmps46
    go_wp2_with fail
    rw [← HS0.out]
    refine HQ.out.mono ?_
    clear HQ
    rintro e w2 ⟨rfl, ho⟩
    have HO2 := Lib.hid (HO0.out.trans ho)
    have hb := HB0.out.only ho (by simp)
    have x1 := hb.cell 1
    have x0 := hb.cell 0
    simp at x0 x1
    clear ho hb
    rcases hi with hi | hi
    · go_wp2
      exact bodyPost_ret (results_tmp rfl _ _ _) rfl ⟨rfl, HO2.out⟩
    · have hi0 : ¬ i < 0 := by omega
      go_wp2
      exact bodyPost_ret (results_tmp rfl _ _ _) rfl ⟨rfl, HO2.out⟩
  have HF1 := Lib.hid (HF.out.trans (if_neg (show ¬ (k < 1 ∨ 6 < k ∨ zeroB k i r t l.length = false ∨ (k = 2 ∧ (i < 0 ∨ 1 < i))) by
    rw [hz]
    rintro (q | q | q | q)
    · exact k1 q
    · exact k6 q
    · cases q
    · exact hi q)))
  have hzz : (k = 2 ∨ k = 3 ∨ i = 0) ∧ (k = 4 ∨ r = 0) ∧ (k = 5 ∨ t.size = 0) ∧ (k = 6 ∨ l.length = 0) := by
    have hz' := hz
    unfold zeroB at hz'
    simp only [Bool.and_eq_true, Bool.or_eq_true, decide_eq_true_eq] at hz'
    omega
  clear hz
  by_cases k5 : k = 5
  · subst k5
    have HF2 := Lib.hid (HF1.out.trans (show _ = rsizes l (deep + 1) (left - 1 - (t.size : Int)) by rw [if_neg (by omega), if_pos rfl]))
    obtain rfl : l = [] := List.length_eq_zero_iff.1 (by omega)
    rw [show ([] : List V).length = 0 from rfl] at HS0 HB0 HQ
    go_enter Try.func46, Try.ntmps46
    go_wp2_with fail
    rw [← HS0.out]
    refine HQ.out.mono ?_
    clear HQ
    rintro e w2 ⟨rfl, ho⟩
    have HO2 := Lib.hid (HO0.out.trans ho)
    have HB2 := Lib.hid (HB0.out.only ho (by simp))
    have x0 := HB2.out.cell 0
    have x1 := HB2.out.cell 1
    have x3 := HB2.out.cell 3
    have x4 := HB2.out.cell 4
    simp at x0 x1 x3 x4
    clear ho HB0 HO0
    go_wp2
    go_loopw [2, 7] (fun z c wr => c = .int .i64 0 ∧ z = iv (left - 1 - (t.size : Int)) ∧ Hid (wr = w2)) (fun _ _ _ => 0)
    case atStart => exact ⟨rfl, rfl, Lib.hid rfl⟩
    case round =>
      obtain ⟨rfl, rfl, hw⟩ := hrel
      have hw := hw.out
      subst hw
      go_wp2
      refine bodyPost_ret (results_tmp rfl _ _ _) rfl ⟨?_, HO2.out⟩
      rw [HF2.out]
      rfl
  by_cases k2 : k = 2
  · subst k2
    have hi1 : ¬ i < 0 := by omega
    have hi2 : ¬ 1 < i := by omega
    have HF2 := Lib.hid (HF1.out.trans (show _ = rsizes l (deep + 1) (left - 1) by rw [if_neg (by omega), if_neg k5, Int.sub_zero]))
    obtain rfl : l = [] := List.length_eq_zero_iff.1 (by omega)
    rw [show ([] : List V).length = 0 from rfl] at HS0 HB0 HQ
    go_enter Try.func46, Try.ntmps46
    go_wp2_with fail
    rw [← HS0.out]
    refine HQ.out.mono ?_
    clear HQ
    rintro e w2 ⟨rfl, ho⟩
    have HO2 := Lib.hid (HO0.out.trans ho)
    have HB2 := Lib.hid (HB0.out.only ho (by simp))
    have x0 := HB2.out.cell 0
    have x1 := HB2.out.cell 1
    have x3 := HB2.out.cell 3
    have x4 := HB2.out.cell 4
    simp at x0 x1 x3 x4
    clear ho HB0 HO0
    go_wp2
    go_loopw [2, 7] (fun z c wr => c = .int .i64 0 ∧ z = iv (left - 1) ∧ Hid (wr = w2)) (fun _ _ _ => 0)
    case atStart => exact ⟨rfl, rfl, Lib.hid rfl⟩
    case round =>
      obtain ⟨rfl, rfl, hw⟩ := hrel
      have hw := hw.out
      subst hw
      go_wp2
      refine bodyPost_ret (results_tmp rfl _ _ _) rfl ⟨?_, HO2.out⟩
      rw [HF2.out]
      rfl
  by_cases k6' : k = 6
  · subst k6'
    by_cases h8 : deep = 8
    · subst h8
      have HF2 := Lib.hid (HF1.out.trans (if_pos ⟨rfl, rfl⟩))
      rw [HF2.out]
      go_enter Try.func46, Try.ntmps46
      go_wp2_with fail
      rw [← HS0.out]
      refine HQ.out.mono ?_
      clear HQ
      rintro e w2 ⟨rfl, ho⟩
      have HO2 := Lib.hid (HO0.out.trans ho)
      have HB2 := Lib.hid (HB0.out.only ho (by simp))
      have x0 := HB2.out.cell 0
      simp at x0
      clear ho
      go_wp2
      exact bodyPost_ret (results_tmp rfl _ _ _) rfl ⟨rfl, HO2.out⟩
    have h8z : ((deep : Int) == 8) = false := by rw [beq_eq_false_iff_ne]; omega
    have HF2 := Lib.hid (HF1.out.trans (show _ = rsizes l (deep + 1) (left - 1) by rw [if_neg (by omega), if_neg (by omega), Int.sub_zero]))
    have hL : left - 1 ≤ 65535 := by omega
    have hL2 : -9223372036854775808 ≤ left - 1 := by omega
    go_enter Try.func46, Try.ntmps46
    go_wp2_with fail
    rw [← HS0.out]
    refine HQ.out.mono ?_
    clear HQ
    rintro e w2 ⟨rfl, ho⟩
    have HO2 := Lib.hid (HO0.out.trans ho)
    have HB2 := Lib.hid (HB0.out.only ho (by simp))
    have x0 := HB2.out.cell 0
    have x1 := HB2.out.cell 1
    have x3 := HB2.out.cell 3
    simp at x0 x1 x3
    clear ho HB0 HO0
    go_wp2
    go_loopw [2, 7] (fun z c wr => ∃ n : Nat, n ≤ l.length ∧ c = .int .i64 n ∧ z = iv (rsizes (l.take n) (deep + 1) (left - 1)) ∧ Hid (Only [] w2 wr)) (fun _ c _ => l.length - (intOf c).toNat)
    case atStart => exact ⟨0, Nat.zero_le _, rfl, rfl, Lib.hid (Only.refl _ _)⟩
    case round =>
      obtain ⟨n, hn, rfl, rfl, HO⟩ := hrel
      have hb := (HB2.out.only HO.out (by simp))
      have x4 := hb.cell 4
      simp at x4
      clear hb x0 x1 x3
      have hlow := rsizes_le (l.take n) (deep + 1) (left - 1)
      have HAP := Lib.hid (show rsizes l (deep + 1) (left - 1) = rsizes (l.drop n) (deep + 1) (rsizes (l.take n) (deep + 1) (left - 1)) by rw [← rsizes_append, List.take_append_drop])
      have HSN := Lib.hid (fun (hh : n < l.length) => show rsizes (l.take (n + 1)) (deep + 1) (left - 1) = rsizes [l[n]] (deep + 1) (rsizes (l.take n) (deep + 1) (left - 1)) by rw [List.take_succ_eq_append_getElem hh, rsizes_append])
      generalize rsizes (l.take n) (deep + 1) (left - 1) = m at *
      by_cases hnl : n < l.length
      · have hnz : (n : Int) < (l.length : Int) := by omega
        by_cases hm : m < 0
        · have hm' : decide (0 ≤ m) = false := by simp; omega
          go_wp2
          refine bodyPost_ret (results_tmp rfl _ _ _) rfl ⟨?_, HO2.out.trans HO.out⟩
          rw [HF2.out, HAP.out, rsizes_neg _ _ _ hm]
          rfl
        · have hm' : decide (0 ≤ m) = true := by simp; omega
          have hd8 : deep ≤ 7 := by omega
          obtain ⟨g, off, rfl, hg, hFg, hcc⟩ := HC.out (by omega)
          have hv := HV.out n hnl
          obtain ⟨c0, c1, c2, c3, c4, c5, c6, hcs⟩ := hv.five
          have hx : ∀ c u, (css n)[c]? = some u → wr.cell? ⟨g, off + n * 5 + c, none⟩ = some u := fun c u hu => ((HO2.out.trans HO.out).cell (p := ⟨g, off + n * 5 + c, none⟩) hg (by simp)).trans (hcc n c u hnl hu)
          have x0 := hx 0 (iv c0) (by rw [hcs]; rfl)
          have x1 := hx 1 (iv c1) (by rw [hcs]; rfl)
          have x2 := hx 2 (fv c2) (by rw [hcs]; rfl)
          have x3 := hx 3 (.string c3) (by rw [hcs]; rfl)
          have x5 := hx 4 (.slice c4 c5 c6) (by rw [hcs]; rfl)
          rw [Nat.add_zero] at x0
          have HT := Lib.hid (HH.out _ (List.getElem_mem hnl) wr F (css n) (deep + 1) m (hv.only0 (HO2.out.trans HO.out)) (by omega) (by omega) (by omega))
          rw [hcs] at HT
          clear hx hcc HC
          go_wp2_with fail
          refine HT.out.mono ?_
          clear HT
          rintro e w3 ⟨rfl, ho2⟩
          have HO3 := Lib.hid (HO.out.trans ho2)
          have HSM := Lib.hid (show rsizes (l.take (n + 1)) (deep + 1) (left - 1) = l[n].rsize (deep + 1) m by rw [HSN.out hnl]; simp only [rsizes, if_neg (show ¬ m < 0 by omega)])
          have HF3 : Hid (iv (l[n].rsize (deep + 1) m) = iv (rsizes (l.take (n + 1)) (deep + 1) (left - 1))) := Lib.hid (by rw [HSM.out])
          clear HSN HAP ho2
          go_wp2
          go_roundw
          case measure => simp [intOf]; omega
          case rel => exact ⟨n + 1, by omega, by go_num, HF3.out, HO3⟩
      · obtain rfl : n = l.length := by omega
        have HL := Lib.hid (show m = rsizes l (deep + 1) (left - 1) by rw [HAP.out, List.drop_length]; rfl)
        clear HSN HAP
        by_cases hm : m < 0
        · have hm' : decide (0 ≤ m) = false := by simp; omega
          go_wp2
          refine bodyPost_ret (results_tmp rfl _ _ _) rfl ⟨?_, HO2.out.trans HO.out⟩
          rw [HF2.out]
          exact congrArg (fun z => Ending.returned (iv z)) HL.out
        · have hm' : decide (0 ≤ m) = true := by simp; omega
          go_wp2
          refine bodyPost_ret (results_tmp rfl _ _ _) rfl ⟨?_, HO2.out.trans HO.out⟩
          rw [HF2.out]
          exact congrArg (fun z => Ending.returned (iv z)) HL.out
  have k2z : (k == 2) = false := by rw [beq_eq_false_iff_ne]; exact k2
  have k5z : (k == 5) = false := by rw [beq_eq_false_iff_ne]; exact k5
  have k6z : (k == 6) = false := by rw [beq_eq_false_iff_ne]; exact k6'
  have HF2 := Lib.hid (HF1.out.trans (show _ = rsizes l (deep + 1) (left - 1) by rw [if_neg (by omega), if_neg k5, Int.sub_zero]))
  obtain rfl : l = [] := List.length_eq_zero_iff.1 (by omega)
  rw [show ([] : List V).length = 0 from rfl] at HS0 HB0 HQ
  go_enter Try.func46, Try.ntmps46
  go_wp2_with fail
  rw [← HS0.out]
  refine HQ.out.mono ?_
  clear HQ
  rintro e w2 ⟨rfl, ho⟩
  have HO2 := Lib.hid (HO0.out.trans ho)
  have HB2 := Lib.hid (HB0.out.only ho (by simp))
  have x0 := HB2.out.cell 0
  have x1 := HB2.out.cell 1
  have x3 := HB2.out.cell 3
  have x4 := HB2.out.cell 4
  simp at x0 x1 x3 x4
  clear ho HB0 HO0
  go_wp2
  go_loopw [2, 7] (fun z c wr => c = .int .i64 0 ∧ z = iv (left - 1) ∧ Hid (wr = w2)) (fun _ _ _ => 0)
  case atStart => exact ⟨rfl, rfl, Lib.hid rfl⟩
  case round =>
    obtain ⟨rfl, rfl, hw⟩ := hrel
    have hw := hw.out
    subst hw
    go_wp2
    refine bodyPost_ret (results_tmp rfl _ _ _) rfl ⟨?_, HO2.out⟩
    rw [HF2.out]
    rfl
theorem rs_ok (v : V) : RsOk v := by
  refine V.rec (motive_1 := RsOk) (motive_2 := fun l => ∀ x ∈ l, RsOk x) ?_ ?_ ?_ v
  · intro k i r t l ih
    exact rs_step _ ih
  · intro x hx; cases hx
  · intro a l ha hl x hx
    rcases List.mem_cons.1 hx with rfl | hx
    · exact ha
    · exact hl x hx
theorem rsize_may (v : V) : decide (0 ≤ v.rsize 0 65536) = v.may := by
  have h := take_rsize v 0 65536 (by omega)
  rw [V.may, V.item]
  cases hx : (v.take 0 65536).1 with
  | none => rw [hx] at h; exact decide_eq_false (by have h : v.rsize 0 65536 < 0 := h; omega)
  | some x => rw [hx] at h; exact decide_eq_true h.2
theorem rsize_size (v : V) : (if v.rsize 0 65536 < 0 then (0 : Int) else 65536 - v.rsize 0 65536) = (v.size : Int) := by
  have h := take_rsize v 0 65536 (by omega)
  unfold V.size
  cases hx : (v.take 0 65536).1 with
  | none =>
    rw [hx] at h
    rw [if_pos h, show v.item = none from hx]
    rfl
  | some x =>
    rw [hx] at h
    have h2 := take_size v 0 65536 x hx
    rw [if_neg (by have := h.2; omega), show v.item = some x from hx, h.1]
    show 65536 - (v.take 0 65536).2 = (x.size : Int)
    omega
set_option maxRecDepth 100000 in
theorem may2_ok {w : World} {F : Nat → Prop} {v : V} {cs : List Value} (h : VIs w F v cs) : Calls Try.prog 28 #[.agg cs.toArray] w fun e w' => e = .returned (.bool v.may) ∧ Only [] w w' := by
  have H := Lib.hid h
  obtain ⟨k, i, r, t, a, n, cap, rfl⟩ := h.five
  clear h
  have HT := Lib.hid (rs_ok v _ F _ 0 65536 (H.out.only0 (w' := w.alloc (.cells #[iv k, iv i, fv r, .string t, .slice a n cap] 33)) ((Only.refl _ w).alloc _)) (by omega) (by omega) (by omega))
  rw [← rsize_may]
  generalize v.rsize 0 65536 = m at *
  go_enter Try.func28, Try.ntmps28
  go_wp2_with fail
  refine HT.out.mono ?_
  clear HT
  rintro e w2 ⟨rfl, ho⟩
  have HO := Lib.hid (((Only.refl _ w).alloc _).trans ho)
  clear ho
  go_wp2
  exact bodyPost_ret (results_tmp rfl _ _ _) rfl ⟨rfl, HO.out⟩
set_option maxRecDepth 100000 in
theorem size2_ok {w : World} {F : Nat → Prop} {v : V} {cs : List Value} (h : VIs w F v cs) : Calls Try.prog 29 #[.agg cs.toArray] w fun e w' => e = .returned (iv v.size) ∧ Only [] w w' := by
  have H := Lib.hid h
  obtain ⟨k, i, r, t, a, n, cap, rfl⟩ := h.five
  clear h
  have HT := Lib.hid (rs_ok v _ F _ 0 65536 (H.out.only0 (w' := w.alloc (.cells #[iv k, iv i, fv r, .string t, .slice a n cap] 33)) ((Only.refl _ w).alloc _)) (by omega) (by omega) (by omega))
  have HZ := Lib.hid (rsize_size v)
  have hle := rsize_le v 0 65536 (by omega)
  generalize v.rsize 0 65536 = m at *
  by_cases hm : m < 0
  · have HZ2 := Lib.hid (HZ.out.symm.trans (if_pos hm))
    rw [HZ2.out]
    go_enter Try.func29, Try.ntmps29
    go_wp2_with fail
    refine HT.out.mono ?_
    clear HT
    rintro e w2 ⟨rfl, ho⟩
    have HO := Lib.hid (((Only.refl _ w).alloc _).trans ho)
    clear ho
    go_wp2
    exact bodyPost_ret (results_tmp rfl _ _ _) rfl ⟨rfl, HO.out⟩
  · have HZ2 := Lib.hid (HZ.out.symm.trans (if_neg hm))
    rw [HZ2.out]
    go_enter Try.func29, Try.ntmps29
    go_wp2_with fail
    refine HT.out.mono ?_
    clear HT
    rintro e w2 ⟨rfl, ho⟩
    have HO := Lib.hid (((Only.refl _ w).alloc _).trans ho)
    clear ho
    go_wp2
    exact bodyPost_ret (results_tmp rfl _ _ _) rfl ⟨rfl, HO.out⟩
end Go.Proofs.Ytffdfegelgpniaa
/-
  The document's order of values: numbers, texts.
-/
set_option linter.unusedSimpArgs false
set_option linter.unusedVariables false
namespace Go.Proofs.Ytffdfegelgpniaa
open Go.RowKit Go.Fl

set_option maxRecDepth 100000 in
theorem number_ok (w : World) (a b : Int) : Calls Try.prog 66 #[iv a, iv b] w fun e w' => e = .returned (iv (cmpI a b)) ∧ w' = w := by
  unfold cmpI
  by_cases h1 : a < b
  · rw [if_pos h1]
    go_enter Try.func66, Try.ntmps66
    go_wp2
    exact bodyPost_ret (results_tmp rfl _ _ _) rfl ⟨rfl, rfl⟩
  · rw [if_neg h1]
    by_cases h2 : b < a
    · rw [if_pos h2]
      go_enter Try.func66, Try.ntmps66
      go_wp2
      exact bodyPost_ret (results_tmp rfl _ _ _) rfl ⟨rfl, rfl⟩
    · rw [if_neg h2]
      go_enter Try.func66, Try.ntmps66
      go_wp2
      exact bodyPost_ret (results_tmp rfl _ _ _) rfl ⟨rfl, rfl⟩
theorem bits_low63 {x : Nat} (h : x < 18446744073709551616) : bits .and .u64 (x : Int) 9223372036854775807 = ((x % 9223372036854775808 : Nat) : Int) := by
  have e := bits_and_u64_nat x 9223372036854775807 h (by omega)
  rw [show ((9223372036854775807 : Nat) : Int) = (9223372036854775807 : Int) from rfl] at e
  rw [e]
  refine congrArg (Nat.cast : Nat → Int) ?_
  exact Nat.and_two_pow_sub_one_eq_mod x 63
set_option maxRecDepth 100000 in
theorem nan2_ok (w : World) (b : Nat) (hb : b < 18446744073709551616) : Calls Try.prog 73 #[fv b] w fun e w' => e = .returned (.bool (nanB b)) ∧ w' = w := by
  have e := e59
  have b1 := bits_low63 hb
  have hn : nanB b = decide ((9218868437227405312 : Int) < ((b % 9223372036854775808 : Nat) : Int)) := by
    unfold nanB
    congr 1
    exact propext (by omega)
  rw [hn]
  go_enter Try.func73, Try.ntmps73
  go_wp2
  exact bodyPost_ret (results_tmp rfl _ _ _) rfl ⟨rfl, rfl⟩
set_option maxRecDepth 100000 in
theorem canon2_ok (w : World) (b : Nat) (hb : b < 18446744073709551616) : Calls Try.prog 62 #[fv b] w fun e w' => e = .returned (fv (canR b)) ∧ w' = w := by
  have e := e70
  have HN := Lib.hid (fun w => nan2_ok w b hb)
  unfold canR
  cases hn : nanB b
  · rw [hn] at HN
    go_enter Try.func62, Try.ntmps62
    go_wp2_with fail
    refine (HN.out _).mono ?_
    rintro e w1 ⟨rfl, rfl⟩
    go_wp2
    exact bodyPost_ret (results_tmp rfl _ _ _) rfl ⟨rfl, rfl⟩
  · rw [hn] at HN
    go_enter Try.func62, Try.ntmps62
    go_wp2_with fail
    refine (HN.out _).mono ?_
    rintro e w1 ⟨rfl, rfl⟩
    go_wp2
    exact bodyPost_ret (results_tmp rfl _ _ _) rfl ⟨rfl, rfl⟩
set_option maxRecDepth 100000 in
theorem key2_ok (w : World) (b : Nat) (hb : b < 18446744073709551616) : Calls Try.prog 64 #[fv b] w fun e w' => e = .returned (.int .u64 (keyR b)) ∧ w' = w := by
  have e := e59
  have HN := Lib.hid (fun w => nan2_ok w b hb)
  unfold keyR
  by_cases h1 : nanB b = true
  · rw [if_pos h1]
    rw [h1] at HN
    go_enter Try.func64, Try.ntmps64
    go_wp2_with fail
    refine (HN.out _).mono ?_
    rintro e w1 ⟨rfl, rfl⟩
    go_wp2
    exact bodyPost_ret (results_tmp rfl _ _ _) rfl ⟨rfl, rfl⟩
  · rw [if_neg h1]
    have h1' : nanB b = false := by simpa using h1
    rw [h1'] at HN
    by_cases h2 : 9223372036854775808 ≤ b
    · rw [if_pos h2]
      have h2z : (9223372036854775808 : Int) ≤ (b : Int) := by omega
      have b0 := bits_not hb
      obtain ⟨c, hc⟩ : ∃ c, c = 18446744073709551615 - b := ⟨_, rfl⟩
      rw [← hc] at b0 ⊢
      have B0 := Lib.hid b0
      clear b0 hc hb h1 h1' h2
      go_enter Try.func64, Try.ntmps64
      go_wp2_with fail
      refine (HN.out _).mono ?_
      rintro e w1 ⟨rfl, rfl⟩
      go_wp2_with (rw [show (bits .xor .u64 (if IntKind.u64.signed = true then -1 else IntKind.u64.max) (b : Int)) = (c : Int) from B0.out])
      exact bodyPost_ret (results_tmp rfl _ _ _) rfl ⟨rfl, rfl⟩
    · rw [if_neg h2]
      have h2z : (b : Int) < 9223372036854775808 := by omega
      have h2y : decide ((9223372036854775808 : Int) ≤ (b : Int)) = false := decide_eq_false (by omega)
      have hw : IntKind.u64.wrap ((b : Int) + 9223372036854775808) = ((b + 9223372036854775808 : Nat) : Int) := by rw [IntKind.wrap_u64]; omega
      obtain ⟨c, hc⟩ : ∃ c, c = b + 9223372036854775808 := ⟨_, rfl⟩
      rw [← hc] at hw ⊢
      clear hc hb h1 h1' h2
      go_enter Try.func64, Try.ntmps64
      go_wp2_with fail
      refine (HN.out _).mono ?_
      rintro e w1 ⟨rfl, rfl⟩
      go_wp2
      exact bodyPost_ret (results_tmp rfl _ _ _) rfl ⟨rfl, rfl⟩
set_option maxRecDepth 100000 in
theorem real2_ok (w : World) (a b : Nat) (ha : a < 18446744073709551616) (hb : b < 18446744073709551616) : Calls Try.prog 67 #[fv a, fv b] w fun e w' => e = .returned (iv (cmpI (keyR a) (keyR b))) ∧ w' = w := by
  have HA := Lib.hid (fun w => key2_ok w a ha)
  have HB := Lib.hid (fun w => key2_ok w b hb)
  generalize keyR a = x at *
  generalize keyR b = y at *
  unfold cmpI
  by_cases h1 : (x : Int) < (y : Int)
  · rw [if_pos h1]
    go_enter Try.func67, Try.ntmps67
    go_wp2_with fail
    refine (HA.out _).mono ?_
    rintro e w1 ⟨rfl, rfl⟩
    go_wp2_with fail
    refine (HB.out _).mono ?_
    rintro e w1 ⟨rfl, rfl⟩
    go_wp2
    exact bodyPost_ret (results_tmp rfl _ _ _) rfl ⟨rfl, rfl⟩
  · rw [if_neg h1]
    by_cases h2 : (y : Int) < (x : Int)
    · rw [if_pos h2]
      go_enter Try.func67, Try.ntmps67
      go_wp2_with fail
      refine (HA.out _).mono ?_
      rintro e w1 ⟨rfl, rfl⟩
      go_wp2_with fail
      refine (HB.out _).mono ?_
      rintro e w1 ⟨rfl, rfl⟩
      go_wp2_with fail
      refine (HA.out _).mono ?_
      rintro e w1 ⟨rfl, rfl⟩
      go_wp2_with fail
      refine (HB.out _).mono ?_
      rintro e w1 ⟨rfl, rfl⟩
      go_wp2
      exact bodyPost_ret (results_tmp rfl _ _ _) rfl ⟨rfl, rfl⟩
    · rw [if_neg h2]
      go_enter Try.func67, Try.ntmps67
      go_wp2_with fail
      refine (HA.out _).mono ?_
      rintro e w1 ⟨rfl, rfl⟩
      go_wp2_with fail
      refine (HB.out _).mono ?_
      rintro e w1 ⟨rfl, rfl⟩
      go_wp2_with fail
      refine (HA.out _).mono ?_
      rintro e w1 ⟨rfl, rfl⟩
      go_wp2_with fail
      refine (HB.out _).mono ?_
      rintro e w1 ⟨rfl, rfl⟩
      go_wp2
      exact bodyPost_ret (results_tmp rfl _ _ _) rfl ⟨rfl, rfl⟩
theorem cmpB_drop : ∀ (a b : List UInt8) (k : Nat) (h1 : k < a.length) (h2 : k < b.length), Lib.compareBytes (a.drop k) (b.drop k) = if a[k] < b[k] then -1 else if b[k] < a[k] then 1 else Lib.compareBytes (a.drop (k + 1)) (b.drop (k + 1)) := fun a b k h1 h2 => by
  rw [List.drop_eq_getElem_cons h1, List.drop_eq_getElem_cons h2]
  rfl
theorem cmpB_end : ∀ (a b : List UInt8), a = [] ∨ b = [] → Lib.compareBytes a b = cmpI a.length b.length
  | [], [], _ => rfl
  | [], b :: l, _ => by
    show (-1 : Int) = cmpI 0 ((l.length + 1 : Nat) : Int)
    unfold cmpI
    rw [if_pos (by omega)]
  | a :: l, [], _ => by
    show (1 : Int) = cmpI ((l.length + 1 : Nat) : Int) 0
    unfold cmpI
    rw [if_neg (by omega), if_pos (by omega)]
  | a :: l, b :: m, h => by simp at h
set_option maxRecDepth 100000 in
set_option maxHeartbeats 1600000 in
theorem texts2_ok (w : World) (a b : ByteArray) (ha : a.size ≤ maxLen) (hb : b.size ≤ maxLen) : Calls Try.prog 68 #[.string a, .string b] w fun e w' => e = .returned (iv (Lib.compareBytes a.data.toList b.data.toList)) ∧ Only [] w w' := by
  have hla : a.data.toList.length = a.size := Array.length_toList
  have hlb : b.data.toList.length = b.size := Array.length_toList
  unfold maxLen at ha hb
  go_enter Try.func68, Try.ntmps68
  go_wp2
  go_loopw [5] (fun z wr => ∃ k : Nat, k ≤ a.size ∧ k ≤ b.size ∧ z = .int .i64 k ∧ Hid (Lib.compareBytes a.data.toList b.data.toList = Lib.compareBytes (a.data.toList.drop k) (b.data.toList.drop k)) ∧ Hid (Only [] w wr)) (fun z _ => a.size - (intOf z).toNat)
  case atStart => exact ⟨0, Nat.zero_le _, Nat.zero_le _, rfl, Lib.hid rfl, Lib.hid (Only.refl _ _)⟩
  case round =>
    obtain ⟨k, hka, hkb, rfl, HE, HO⟩ := hrel
    by_cases h1 : k < a.size
    · have h1z : (k : Int) < (a.size : Int) := by omega
      by_cases h2 : k < b.size
      · have h2z : (k : Int) < (b.size : Int) := by omega
        have HD := Lib.hid (HE.out.trans (cmpB_drop a.data.toList b.data.toList k (by omega) (by omega)))
        have ea : a.data.toList[k]'(by omega) = a[k] := rfl
        have eb : b.data.toList[k]'(by omega) = b[k] := rfl
        rw [ea, eb] at HD
        clear ea eb
        have hca := UInt8.toNat_lt a[k]
        have hcb := UInt8.toNat_lt b[k]
        by_cases heq : a[k] = b[k]
        · have hq : ((a[k].toNat : Int) != (b[k].toNat : Int)) = false := by rw [heq]; simp
          have HF := Lib.hid (show Lib.compareBytes a.data.toList b.data.toList = Lib.compareBytes (a.data.toList.drop (k + 1)) (b.data.toList.drop (k + 1)) by
            rw [HD.out, if_neg (by rw [heq]; exact UInt8.lt_irrefl _), if_neg (by rw [heq]; exact UInt8.lt_irrefl _)])
          go_wp2
          refine Lex.wp_region_text (by kernel_rfl) (by kernel_rfl) ?_
          go_wp2
          refine Lex.sq_done (by rfl) ?_
          go_wp2
          go_roundw
          case measure => simp [intOf]; omega
          case rel => exact ⟨k + 1, by omega, by omega, by go_num, HF, Lib.hid HO.out.drew⟩
        · have hne : a[k].toNat ≠ b[k].toNat := fun h => heq (UInt8.toNat_inj.1 h)
          have hq : ((a[k].toNat : Int) != (b[k].toNat : Int)) = true := by rw [bne_iff_ne]; omega
          have HF := Lib.hid (show Lib.compareBytes a.data.toList b.data.toList = cmpI (a[k].toNat : Int) (b[k].toNat : Int) by
            rw [HD.out]
            unfold cmpI
            by_cases h : a[k] < b[k]
            · rw [if_pos h, if_pos (by have := UInt8.lt_iff_toNat_lt.1 h; omega)]
            · have h3 : b[k] < a[k] := UInt8.lt_iff_toNat_lt.2 (by have : ¬ a[k].toNat < b[k].toNat := fun h4 => h (UInt8.lt_iff_toNat_lt.2 h4); omega)
              rw [if_neg h, if_pos h3, if_neg (by have := UInt8.lt_iff_toNat_lt.1 h3; omega), if_pos (by have := UInt8.lt_iff_toNat_lt.1 h3; omega)])
          have HQ := Lib.hid (fun w => number_ok w (a[k].toNat : Int) (b[k].toNat : Int))
          clear HE HD
          go_wp2
          refine Lex.wp_region_text (by kernel_rfl) (by kernel_rfl) ?_
          go_wp2
          refine Lex.sq_done (by rfl) ?_
          go_wp2
          refine Lex.wp_region_text (by kernel_rfl) (by kernel_rfl) ?_
          go_wp2_with fail
          refine (HQ.out _).mono ?_
          rintro e w2 ⟨rfl, rfl⟩
          go_wp2
          refine Lex.sq_done (by rfl) ?_
          go_wp2
          exact bodyPost_ret (results_tmp rfl _ _ _) rfl ⟨by rw [HF.out]; rfl, HO.out.drew.drew⟩
      · have h2z : ¬ (k : Int) < (b.size : Int) := by omega
        have HF := Lib.hid (show Lib.compareBytes a.data.toList b.data.toList = cmpI (a.size : Int) (b.size : Int) by
          rw [HE.out, cmpB_end _ _ (.inr (List.drop_eq_nil_of_le (by omega))), List.length_drop, List.length_drop, hla, hlb]
          unfold cmpI
          rw [if_neg (by omega), if_pos (by omega), if_neg (by omega), if_pos (by omega)])
        have HQ := Lib.hid (fun w => number_ok w (a.size : Int) (b.size : Int))
        clear HE
        go_wp2_with fail
        refine (HQ.out _).mono ?_
        rintro e w2 ⟨rfl, rfl⟩
        go_wp2
        exact bodyPost_ret (results_tmp rfl _ _ _) rfl ⟨by rw [HF.out]; rfl, HO.out⟩
    · have h1z : ¬ (k : Int) < (a.size : Int) := by omega
      have HF := Lib.hid (show Lib.compareBytes a.data.toList b.data.toList = cmpI (a.size : Int) (b.size : Int) by
        rw [HE.out, cmpB_end _ _ (.inl (List.drop_eq_nil_of_le (by omega))), List.length_drop, List.length_drop, hla, hlb]
        unfold cmpI
        by_cases h : (a.size : Int) < (b.size : Int)
        · rw [if_pos (by omega), if_pos h]
        · rw [if_neg (by omega), if_neg (by omega), if_neg h, if_neg (by omega)])
      have HQ := Lib.hid (fun w => number_ok w (a.size : Int) (b.size : Int))
      clear HE
      go_wp2_with fail
      refine (HQ.out _).mono ?_
      rintro e w2 ⟨rfl, rfl⟩
      go_wp2
      exact bodyPost_ret (results_tmp rfl _ _ _) rfl ⟨by rw [HF.out]; rfl, HO.out⟩
end Go.Proofs.Ytffdfegelgpniaa
