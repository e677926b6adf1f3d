/-
  The law's Eq of bytes; the document's Eq of values.
-/
import Derived.Test.YtffdfegelgpniaaVt
set_option linter.unusedSimpArgs false
set_option linter.unusedVariables false
namespace Go.Proofs.Ytffdfegelgpniaa
open Go.RowKit Go.Fl

theorem bytes_of_sl {w : World} {v : Value} {n : Nat} {bs : List Nat} (h : Sl w 5 1 v n (bs.map bv)) (hb : ∀ c ∈ bs, c < 256) : BytesV w (fun g => v.ownBlock = some g) bs v := by
  have hn : n = bs.length := by have := h.len; simpa using this.symm
  subst hn
  have hform : ∃ a cap, v = .slice a bs.length cap ∧ bs.length ≤ cap ∧ cap ≤ maxLen := by
    rcases h.2 with ⟨e, e2⟩ | ⟨g, off, cap', cur, e, hh, h1, h2, _, _⟩
    · exact ⟨_, _, e.trans (by rw [e2]), by omega, by decide⟩
    · exact ⟨_, _, e, h1, h2⟩
  obtain ⟨a, cap, rfl, hc1, hc2⟩ := hform
  refine ⟨a, cap, rfl, hc1, hc2, hb, fun h0 => ?_⟩
  obtain ⟨g, off, cap', hv, hg, _, _, hc, _⟩ := h.form h0
  injection hv with e1 _ e3
  subst e1
  refine ⟨g, off, rfl, hg, rfl, fun j hj => ?_⟩
  rw [hc j (by omega)]
  simp [hj]
set_option maxRecDepth 100000 in
theorem eqB_ok {w : World} {F F2 : Nat → Prop} {b1 b2 : List Nat} {s1 s2 : Value} (h1 : BytesV w F b1 s1) (h2 : BytesV w F2 b2 s2) : Calls Try.prog 22 #[s1, s2] w fun e w' => e = .returned (.bool (decide (b1 = b2))) ∧ Only [] w w' := by
  obtain ⟨a, cap, rfl, _, hm, _, hc1⟩ := h1
  obtain ⟨a2, cap2, rfl, _, hm2, _, hc2⟩ := h2
  have HC1 := Lib.hid hc1
  have HC2 := Lib.hid hc2
  clear hc1 hc2
  have hlm : b1.length ≤ maxLen := by omega
  have hlm2 : b2.length ≤ maxLen := by omega
  unfold maxLen at hlm hlm2
  by_cases hl : b1.length = b2.length
  case neg =>
    have hz : ((b1.length : Int) != (b2.length : Int)) = true := by rw [bne_iff_ne]; omega
    have HF := Lib.hid (show decide (b1 = b2) = false from decide_eq_false fun e => hl (by rw [e]))
    rw [HF.out]
    go_enter Try.func22, Try.ntmps22
    go_wp2
    exact bodyPost_ret (results_tmp rfl _ _ _) rfl ⟨rfl, Only.refl _ _⟩
  have hz : ((b1.length : Int) != (b2.length : Int)) = false := by rw [bne_eq_false_iff_eq]; omega
  have HLL := Lib.hid hl
  clear hl
  go_enter Try.func22, Try.ntmps22
  go_wp2
  go_loopw [5] (fun z wr => ∃ k : Nat, k ≤ b1.length ∧ z = .int .i64 k ∧ Hid (b1.take k = b2.take k) ∧ Hid (Only [] w wr)) (fun z _ => b1.length - (intOf z).toNat)
  case atStart => exact ⟨0, Nat.zero_le _, rfl, Lib.hid rfl, Lib.hid (Only.refl _ _)⟩
  case round =>
    obtain ⟨k, hk, rfl, HT, HO⟩ := hrel
    by_cases hkl : k < b1.length
    · have hkz : (k : Int) < (b1.length : Int) := by omega
      have hk2 : k < b2.length := by have := HLL.out; omega
      have hkz2 : (k : Int) < (b2.length : Int) := by omega
      obtain ⟨g, on, rfl, hg, _, hg1⟩ := HC1.out (by omega)
      obtain ⟨g2, on2, rfl, hg2, _, hg3⟩ := HC2.out (by omega)
      have x1 : wr.cell? ⟨g, on + k, none⟩ = some (bv b1[k]) := (HO.out.cell (p := ⟨g, on + k, none⟩) hg (by simp)).trans (hg1 k hkl)
      have x2 : wr.cell? ⟨g2, on2 + k, none⟩ = some (bv b2[k]) := (HO.out.cell (p := ⟨g2, on2 + k, none⟩) hg2 (by simp)).trans (hg3 k hk2)
      clear hg1 hg3 HC1 HC2
      by_cases he : b1[k] = b2[k]
      · have hq : ((b1[k] : Int) != (b2[k] : Int)) = false := by rw [bne_eq_false_iff_eq]; omega
        have HN := Lib.hid (show b1.take (k + 1) = b2.take (k + 1) by rw [List.take_succ_eq_append_getElem hkl, List.take_succ_eq_append_getElem hk2, HT.out, he])
        have HE := Lib.hid he
        clear he
        go_wp2
        go_quiet (fail)
        go_wp2
        go_roundw
        case measure => simp [intOf]; omega
        case rel => exact ⟨k + 1, by omega, by go_num, HN, Lib.hid (HO.out.drewN _)⟩
      · have hq : ((b1[k] : Int) != (b2[k] : Int)) = true := by rw [bne_iff_ne]; omega
        have HF := Lib.hid (show decide (b1 = b2) = false from decide_eq_false fun e => he (by subst e; rfl))
        have HE := Lib.hid he
        clear he
        go_wp2
        go_quiet (fail)
        go_wp2
        refine bodyPost_ret (results_tmp rfl _ _ _) rfl ⟨?_, HO.out.drewN _⟩
        exact congrArg (fun z => Ending.returned (.bool z)) HF.out.symm
    · obtain rfl : k = b1.length := by omega
      have HF := Lib.hid (show decide (b1 = b2) = true from decide_eq_true (by
        have := HT.out
        rw [List.take_length, HLL.out, List.take_length] at this
        exact this))
      clear HC1 HC2
      go_wp2
      refine bodyPost_ret (results_tmp rfl _ _ _) rfl ⟨?_, HO.out⟩
      exact congrArg (fun z => Ending.returned (.bool z)) HF.out.symm
mutual
/-- The same in all. -/
def eqV : V → V → Bool
  | .mk k i r t l, b => match b with | .mk k' i' r' t' l' => decide (k = k') && decide (i = i') && decide (r = r') && decide (t.data.toList = t'.data.toList) && decide (l.length = l'.length) && eqVs l l'
def eqVs : List V → List V → Bool
  | [], _ => true
  | a :: l, m => match m with | [] => true | b :: m => eqV a b && eqVs l m
end
set_option maxRecDepth 100000 in
theorem bits_ok (w : World) (a b : Nat) : Calls Try.prog 39 #[fv a, fv b] w fun e w' => e = .returned (.bool (decide (a = b))) ∧ w' = w := by
  have e := e59
  by_cases h : a = b
  · subst h
    have hz : ((a : Int) == (a : Int)) = true := by simp
    rw [decide_eq_true (Eq.refl a)]
    go_enter Try.func39, Try.ntmps39
    go_wp2
    exact bodyPost_ret (results_tmp rfl _ _ _) rfl ⟨rfl, rfl⟩
  · have hz : ((a : Int) == (b : Int)) = false := by rw [beq_eq_false_iff_ne]; omega
    rw [decide_eq_false h]
    go_enter Try.func39, Try.ntmps39
    go_wp2
    exact bodyPost_ret (results_tmp rfl _ _ _) rfl ⟨rfl, rfl⟩
end Go.Proofs.Ytffdfegelgpniaa
