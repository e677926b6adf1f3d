/-
  Sorting, in plain words: what is turned within a range; what is in order.
-/
import Derived.Test.YtjnhplgdbdneiaaCb
set_option linter.unusedSimpArgs false
set_option linter.unusedVariables false
namespace Go.Proofs.Ytjnhplgdbdneiaa

/-- The list is turned within [a, b) alone. -/
structure RP (a b : Nat) (d d' : List Tm) : Prop where
  len : d'.length = d.length
  perm : d'.Perm d
  out : ∀ k, k < d.length → (k < a ∨ b ≤ k) → d'.getD k (0, 0) = d.getD k (0, 0)
theorem RP.refl (a b : Nat) (d : List Tm) : RP a b d d := ⟨rfl, List.Perm.refl _, fun _ _ _ => rfl⟩
theorem RP.trans {a b : Nat} {d e f : List Tm} (h : RP a b d e) (k : RP a b e f) : RP a b d f :=
  ⟨k.len.trans h.len, k.perm.trans h.perm, fun j hj ho => (k.out j (by rw [h.len]; exact hj) ho).trans (h.out j hj ho)⟩
theorem RP.wide {a b a' b' : Nat} {d e : List Tm} (h : RP a' b' d e) (h1 : a ≤ a') (h2 : b' ≤ b) : RP a b d e :=
  ⟨h.len, h.perm, fun k hk ho => h.out k hk (by omega)⟩
theorem RP.swap {a b i j : Nat} {d : List Tm} (hi : a ≤ i ∧ i < b) (hj : a ≤ j ∧ j < b) (hb : b ≤ d.length) : RP a b d (swp d i j) :=
  ⟨swp_len _ _ _, swp_perm _ (by omega) (by omega), fun k hk ho => by
    rw [swp_get (by omega) (by omega) hk, if_neg (by omega), if_neg (by omega)]⟩
theorem getD_getElem {d : List Tm} {k : Nat} (h : k < d.length) : d.getD k (0, 0) = d[k] := by
  rw [List.getD_eq_getElem?_getD, List.getElem?_eq_getElem h]
  rfl
/-- What holds of all in the range holds of all behind. -/
theorem RP.all {a b : Nat} {d d' : List Tm} {P : Tm → Prop} (h : RP a b d d') (hb : b ≤ d.length) (hp : ∀ k, a ≤ k → k < b → P (d.getD k (0, 0))) : ∀ k, a ≤ k → k < b → P (d'.getD k (0, 0)) := by
  intro k hk hkb
  have hl := h.len
  have e1 : d'.take a = d.take a := by
    refine List.ext_getElem (by simp; omega) fun i h1 h2 => ?_
    rw [List.getElem_take, List.getElem_take]
    have := h.out i (by simp at h2; omega) (.inl (by simp at h2; omega))
    rwa [getD_getElem (by simp at h1; omega), getD_getElem (by simp at h2; omega)] at this
  have e2 : d'.drop b = d.drop b := by
    refine List.ext_getElem (by simp; omega) fun i h1 h2 => ?_
    rw [List.getElem_drop, List.getElem_drop]
    have := h.out (b + i) (by simp at h2; omega) (.inr (by omega))
    rwa [getD_getElem (by simp at h1; omega), getD_getElem (by simp at h2; omega)] at this
  have hs : ∀ (x : List Tm), b ≤ x.length → x = x.take a ++ (((x.drop a).take (b - a)) ++ x.drop b) := fun x hx => by
    have h1 : x.drop b = (x.drop a).drop (b - a) := by rw [List.drop_drop]; congr 1; omega
    rw [h1, List.take_append_drop, List.take_append_drop]
  have hpm := h.perm
  rw [hs d hb, hs d' (by omega), e1, e2] at hpm
  have hmid := (List.perm_append_right_iff _).1 ((List.perm_append_left_iff _).1 hpm)
  have hmem : d'.getD k (0, 0) ∈ (d'.drop a).take (b - a) := by
    rw [getD_getElem (by omega)]
    rw [List.mem_iff_getElem]
    exact ⟨k - a, by simp; omega, by rw [List.getElem_take, List.getElem_drop]; congr 1; omega⟩
  obtain ⟨i, hi, he⟩ := List.mem_iff_getElem.1 (hmid.mem_iff.1 hmem)
  rw [← he, List.getElem_take, List.getElem_drop, ← getD_getElem (by simp at hi; omega)]
  exact hp (a + i) (by omega) (by simp at hi; omega)
/-- In order within [a, b). -/
def SR (d : List Tm) (a b : Nat) : Prop := ∀ i j, a ≤ i → i < j → j < b → tlt (d.getD j (0, 0)) (d.getD i (0, 0)) = false
theorem SR.one (d : List Tm) (a b : Nat) (h : b ≤ a + 1) : SR d a b := fun i j h1 h2 h3 => by omega
/-- But for one that goes down, [a, i] is in order. -/
def SJ (d : List Tm) (a i j : Nat) : Prop := ∀ p q, a ≤ p → p < q → q ≤ i → q ≠ j → tlt (d.getD q (0, 0)) (d.getD p (0, 0)) = false
theorem SJ.start {d : List Tm} {a i : Nat} (h : SR d a i) : SJ d a i i := fun p q h1 h2 h3 h4 => h p q h1 h2 (by omega)
theorem SJ.stop {d : List Tm} {a i j : Nat} (h : SJ d a i j) (hj : a ≤ j) (he : j = a ∨ tlt (d.getD j (0, 0)) (d.getD (j - 1) (0, 0)) = false) : SR d a (i + 1) := fun p q h1 h2 h3 => by
  by_cases e : q = j
  · subst e
    rcases he with e | e
    · omega
    · by_cases e2 : p = q - 1
      · rw [e2]; exact e
      · exact tlt_ntrans e (h p (q - 1) h1 (by omega) (by omega) (by omega))
  · exact h p q h1 h2 (by omega) e
theorem SJ.step {d : List Tm} {a i j : Nat} (h : SJ d a i j) (hj : a < j) (hji : j ≤ i) (hi : i < d.length) (hlt : tlt (d.getD j (0, 0)) (d.getD (j - 1) (0, 0)) = true) : SJ (swp d j (j - 1)) a i (j - 1) := fun p q h1 h2 h3 h4 => by
  have hg := fun k hk => swp_get (l := d) (i := j) (j := j - 1) (k := k) (by omega) (by omega) hk
  rw [hg q (by omega), hg p (by omega), if_neg h4]
  by_cases e : q = j
  · subst e
    rw [if_pos rfl]
    by_cases e2 : p = q - 1
    · rw [if_pos e2]
      exact tlt_asym hlt
    · rw [if_neg e2, if_neg (by omega)]
      exact h p (q - 1) h1 (by omega) (by omega) (by omega)
  · rw [if_neg e]
    by_cases e2 : p = j - 1
    · rw [if_pos e2]
      exact h j q (by omega) (by omega) h3 e
    · rw [if_neg e2]
      by_cases e3 : p = j
      · rw [if_pos e3]
        exact h (j - 1) q (by omega) (by omega) h3 e
      · rw [if_neg e3]
        exact h p q h1 h2 h3 e
theorem SR.srt {d : List Tm} (h : SR d 0 d.length) (hn : d.Pairwise fun x y => x ≠ y) : Srt d := by
  unfold Srt
  rw [List.pairwise_iff_getElem] at *
  intro i j hi hj hij
  have h1 := h i j (Nat.zero_le _) hij hj
  rw [getD_getElem hj, getD_getElem hi] at h1
  have h2 := hn i j hi hj hij
  rw [tlt_not] at h1
  rw [tlt_iff]
  rcases h1 with h1 | ⟨h1, h3⟩
  · exact .inl h1
  · refine .inr ⟨h1.symm, ?_⟩
    rcases Int.lt_or_eq_of_le h3 with h4 | h4
    · exact h4
    · exact absurd (Prod.ext h4 h1.symm) h2
end Go.Proofs.Ytjnhplgdbdneiaa
