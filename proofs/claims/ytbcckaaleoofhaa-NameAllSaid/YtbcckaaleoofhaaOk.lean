/-
  NameAll, plain: sorted and compacted is each text once, in order. No program in sight.
-/
import Derived.Test.YtbcckaaleoofhaaOh
import Derived.Lib.SlicesCompact
namespace Go.Fl
open Go.Op Go.Lib

theorem le_tr {a b c : List UInt8} (h1 : bytesLess b a = false) (h2 : bytesLess c b = false) : bytesLess c a = false := by
  rcases less_tri a b with h | h | h
  · rcases less_tri b c with h3 | h3 | h3
    · have h4 := less_trans h h3
      cases hc : bytesLess c a with
      | false => rfl
      | true => have := less_trans h4 hc; rw [bytesLess_irrefl] at this; cases this
    · subst h3
      exact h1
    · rw [h2] at h3; cases h3
  · subst h; exact h2
  · rw [h1] at h; cases h
theorem less_of_le_ne {a b : List UInt8} (h1 : bytesLess b a = false) (h2 : a ≠ b) : bytesLess a b = true := by
  rcases less_tri a b with h | h | h
  · exact h
  · exact absurd h h2
  · rw [h1] at h; cases h
theorem less_of_le_less {a b c : List UInt8} (h1 : bytesLess b a = false) (h2 : bytesLess b c = true) : bytesLess a c = true := by
  rcases less_tri a b with h | h | h
  · exact less_trans h h2
  · subst h; exact h2
  · rw [h1] at h; cases h
def leB (x y : List UInt8) : Bool := decide (x ≤ y)
theorem leB_iff (x y : List UInt8) : leB x y = true ↔ bytesLess y x = false := by
  unfold leB; rw [decide_eq_true_iff]; exact le_iff x y
theorem sorted_ms (zs : List (List UInt8)) : (zs.mergeSort leB).Pairwise (fun x y => bytesLess y x = false) := by
  have h := List.pairwise_mergeSort (le := leB) (fun a b c h1 h2 => by
    rw [leB_iff] at *
    exact le_tr h1 h2) (fun a b => by
    rw [Bool.or_eq_true, leB_iff, leB_iff]
    rcases less_tri a b with h | h | h
    · left
      cases hc : bytesLess b a with
      | false => rfl
      | true => have := less_trans h hc; rw [bytesLess_irrefl] at this; cases this
    · subst h; left; exact bytesLess_irrefl a
    · right
      cases hc : bytesLess a b with
      | false => rfl
      | true => have := less_trans h hc; rw [bytesLess_irrefl] at this; cases this) zs
  exact h.imp fun {a b} hab => (leB_iff a b).1 hab
theorem up_of_pw : ∀ l : List (List UInt8), l.Pairwise (fun x y => bytesLess x y = true) → Up l
  | [], _ => trivial
  | [_], _ => trivial
  | a :: b :: l, h => by
    rw [List.pairwise_cons] at h
    exact ⟨h.1 b (List.mem_cons_self ..), up_of_pw (b :: l) h.2⟩
theorem arr_at (zs : List (List UInt8)) (i : Nat) (h : i < zs.length) : zs.toArray[i]! = zs[i] := by
  rw [getElem!_pos zs.toArray i (by simpa using h)]; simp
theorem compact_pw (zs : List (List UInt8)) (hs : zs.Pairwise (fun x y => bytesLess y x = false)) : ∀ m, m ≤ zs.length →
    (compactUpTo zs.toArray m).Pairwise (fun x y => bytesLess x y = true) ∧ ∀ x, x ∈ compactUpTo zs.toArray m ↔ x ∈ zs.take m
  | 0, _ => by simp [compactUpTo]
  | m + 1, h => by
    have ih := compact_pw zs hs m (by omega)
    rw [compactUpTo_succ, arr_at zs m (by omega), List.take_succ_eq_append_getElem (show m < zs.length by omega)]
    have hle : ∀ i (hi : i < m), bytesLess zs[m] (zs[i]'(by omega)) = false := fun i hi => List.pairwise_iff_getElem.1 hs i m (by omega) (by omega) hi
    by_cases hk : keeps zs.toArray m = true
    · rw [if_pos hk]
      have hlt : ∀ x ∈ compactUpTo zs.toArray m, bytesLess x zs[m] = true := by
        intro x hx
        rw [ih.2] at hx
        obtain ⟨i, hi, rfl⟩ := List.mem_iff_getElem.1 hx
        have him : i < m := by rw [List.length_take] at hi; omega
        rw [List.getElem_take]
        have hm0 : 0 < m := by omega
        have hne : zs[m] ≠ zs[m - 1]'(by omega) := by
          intro e
          have := keeps_neg (d := zs.toArray) hm0 (by rw [arr_at zs m (by omega), arr_at zs (m - 1) (by omega), e])
          rw [this] at hk; cases hk
        have h1 : bytesLess (zs[m - 1]'(by omega)) zs[m] = true := less_of_le_ne (hle (m - 1) (by omega)) (fun e => hne e.symm)
        rcases Nat.lt_or_ge i (m - 1) with h2 | h2
        · exact less_of_le_less (List.pairwise_iff_getElem.1 hs i (m - 1) (by omega) (by omega) h2) h1
        · have : i = m - 1 := by omega
          subst this; exact h1
      refine ⟨?_, fun x => ?_⟩
      · rw [List.pairwise_append]
        exact ⟨ih.1, List.pairwise_singleton _ _, fun a ha b hb => by simp at hb; subst hb; exact hlt a ha⟩
      · rw [List.mem_append, List.mem_append, ih.2]
    · rw [if_neg hk, List.append_nil]
      refine ⟨ih.1, fun x => ?_⟩
      rw [ih.2, List.mem_append]
      constructor
      · exact .inl
      · rintro (hx | hx)
        · exact hx
        · simp at hx
          subst hx
          have hm0 : 0 < m := by
            rcases Nat.eq_zero_or_pos m with h0 | h0
            · subst h0; exact absurd (keeps_lt_one zs.toArray 0 (by omega)) hk
            · exact h0
          have he : zs[m] = zs[m - 1]'(by omega) := by
            refine Classical.byContradiction fun hne => hk (keeps_pos (d := zs.toArray) ?_)
            rw [arr_at zs m (by omega), arr_at zs (m - 1) (by omega)]; exact hne
          rw [he]
          exact List.mem_iff_getElem.2 ⟨m - 1, by rw [List.length_take]; omega, by rw [List.getElem_take]⟩
/-- What Order answers is the document's. -/
theorem ord_eq (may : List UInt8 → Bool) (ss : List (List UInt8)) : compact ((ss.filter may).mergeSort leB) = ordM may ss := by
  have h1 := compact_pw _ (sorted_ms (ss.filter may)) _ (Nat.le_refl _)
  refine Up.ext (up_of_pw _ h1.1) (ordM_up may ss [] trivial) fun x => ?_
  unfold compact
  rw [h1.2, List.take_length, (List.mergeSort_perm (ss.filter may) leB).mem_iff, List.mem_filter]
  unfold ordM
  rw [ordM_mem]
  simp
end Go.Fl
