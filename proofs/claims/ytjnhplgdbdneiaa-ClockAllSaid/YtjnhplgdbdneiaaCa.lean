/-
  A clock's timers, in plain words: a heap of (number, time), by time and number.
-/
import Derived.Test.YtjnhplgdbdneiaaBase
set_option linter.unusedSimpArgs false
set_option linter.unusedVariables false
namespace Go.Proofs.Ytjnhplgdbdneiaa

abbrev Tm := Int × Nat
def tlt (x y : Tm) : Bool := decide (x.2 < y.2 ∨ x.2 = y.2 ∧ x.1 < y.1)
theorem tlt_iff {x y : Tm} : tlt x y = true ↔ x.2 < y.2 ∨ x.2 = y.2 ∧ x.1 < y.1 := by simp [tlt]
theorem tlt_not {x y : Tm} : tlt x y = false ↔ y.2 < x.2 ∨ x.2 = y.2 ∧ y.1 ≤ x.1 := by
  rw [← Bool.not_eq_true, tlt_iff]
  omega
theorem tlt_trans {x y z : Tm} (h : tlt x y = true) (k : tlt y z = true) : tlt x z = true := by
  rw [tlt_iff] at *
  omega
theorem tlt_ntrans {x y z : Tm} (h : tlt x y = false) (k : tlt y z = false) : tlt x z = false := by
  rw [tlt_not] at *
  omega
theorem tlt_irr (x : Tm) : tlt x x = false := by
  rw [tlt_not]
  omega
theorem tlt_asym {x y : Tm} (h : tlt x y = true) : tlt y x = false := by
  rw [tlt_iff] at h
  rw [tlt_not]
  omega
/-- Two of the list change places. -/
def swp (l : List Tm) (i j : Nat) : List Tm := (l.set i (l.getD j (0, 0))).set j (l.getD i (0, 0))
theorem swp_len (l : List Tm) (i j : Nat) : (swp l i j).length = l.length := by simp [swp]
theorem swp_get {l : List Tm} {i j k : Nat} (hi : i < l.length) (hj : j < l.length) (hk : k < l.length) :
    (swp l i j).getD k (0, 0) = if k = j then l.getD i (0, 0) else if k = i then l.getD j (0, 0) else l.getD k (0, 0) := by
  simp only [swp, List.getD_eq_getElem?_getD, List.getElem?_set, List.length_set]
  by_cases h : k = j
  · subst h
    rw [if_pos rfl, if_pos hk, if_pos rfl]
    rfl
  · rw [if_neg (fun e => h e.symm), if_neg h]
    by_cases h2 : k = i
    · subst h2
      rw [if_pos rfl, if_pos hk, if_pos rfl]
      rfl
    · rw [if_neg (fun e => h2 e.symm), if_neg h2]
theorem swp_same (l : List Tm) (i : Nat) (hi : i < l.length) : swp l i i = l := by
  unfold swp
  rw [List.set_set, List.getD_eq_getElem?_getD, List.getElem?_eq_getElem hi]
  exact List.set_getElem_self hi
theorem swp_perm (l : List Tm) {i j : Nat} (hi : i < l.length) (hj : j < l.length) : (swp l i j).Perm l := by
  unfold swp
  rw [List.getD_eq_getElem?_getD, List.getD_eq_getElem?_getD, List.getElem?_eq_getElem hi, List.getElem?_eq_getElem hj]
  exact List.set_set_perm hi hj
/-- Up the heap. -/
def hup (l : List Tm) (j : Nat) : List Tm :=
  if h : 0 < j ∧ tlt (l.getD j (0, 0)) (l.getD ((j - 1) / 2) (0, 0)) = true then hup (swp l ((j - 1) / 2) j) ((j - 1) / 2) else l
termination_by j
decreasing_by omega
/-- The lesser child of i, the heap's end being n. -/
def kid (l : List Tm) (i n : Nat) : Nat := if 2 * i + 2 < n ∧ tlt (l.getD (2 * i + 2) (0, 0)) (l.getD (2 * i + 1) (0, 0)) = true then 2 * i + 2 else 2 * i + 1
theorem kid_or (l : List Tm) (i n : Nat) : kid l i n = 2 * i + 1 ∨ kid l i n = 2 * i + 2 ∧ 2 * i + 2 < n := by
  unfold kid
  split
  · rename_i h; exact .inr ⟨rfl, h.1⟩
  · exact .inl rfl
/-- Down the heap: the list, and where it ended. -/
def hdn (l : List Tm) (i n : Nat) : List Tm × Nat :=
  if h : 2 * i + 1 < n ∧ tlt (l.getD (kid l i n) (0, 0)) (l.getD i (0, 0)) = true then hdn (swp l i (kid l i n)) (kid l i n) n else (l, i)
termination_by n - i
decreasing_by
  have := kid_or l i n
  omega
/-- A heap of its first n. -/
def Hp (l : List Tm) (n : Nat) : Prop := ∀ k, 0 < k → k < n → tlt (l.getD k (0, 0)) (l.getD ((k - 1) / 2) (0, 0)) = false
theorem Hp.min {l : List Tm} {n : Nat} (h : Hp l n) : ∀ k, k < n → tlt (l.getD k (0, 0)) (l.getD 0 (0, 0)) = false := by
  intro k
  induction k using Nat.strongRecOn with
  | _ k ih =>
    intro hk
    by_cases h0 : k = 0
    · subst h0
      exact tlt_irr _
    · exact tlt_ntrans (h k (by omega) hk) (ih ((k - 1) / 2) (by omega) (by omega))
theorem hup_len : ∀ (j : Nat) (l : List Tm), (hup l j).length = l.length := by
  intro j
  induction j using Nat.strongRecOn with
  | _ j ih =>
    intro l
    rw [hup]
    split
    · rename_i h
      rw [ih _ (by omega), swp_len]
    · rfl
theorem hup_perm : ∀ (j : Nat) (l : List Tm), j < l.length → (hup l j).Perm l := by
  intro j
  induction j using Nat.strongRecOn with
  | _ j ih =>
    intro l hj
    rw [hup]
    split
    · rename_i h
      exact (ih _ (by omega) _ (by rw [swp_len]; omega)).trans (swp_perm l (by omega) hj)
    · exact List.Perm.refl _
theorem hup_far : ∀ (j : Nat) (l : List Tm) (k : Nat), j < k → k < l.length → (hup l j).getD k (0, 0) = l.getD k (0, 0) := by
  intro j
  induction j using Nat.strongRecOn with
  | _ j ih =>
    intro l k hk hl
    rw [hup]
    split
    · rename_i h
      rw [ih _ (by omega) _ k (by omega) (by rw [swp_len]; omega), swp_get (by omega) (by omega) hl, if_neg (by omega), if_neg (by omega)]
    · rfl
/-- All stands as in a heap but for j and its parent; j's children stand below j's parent. -/
theorem hup_heap : ∀ (j : Nat) (l : List Tm) (n : Nat), n ≤ l.length → j < n →
    (∀ k, 0 < k → k < n → k ≠ j → tlt (l.getD k (0, 0)) (l.getD ((k - 1) / 2) (0, 0)) = false) →
    (∀ k, 0 < k → k < n → (k - 1) / 2 = j → 0 < j → tlt (l.getD k (0, 0)) (l.getD ((j - 1) / 2) (0, 0)) = false) → Hp (hup l j) n := by
  intro j
  induction j using Nat.strongRecOn with
  | _ j ih =>
    intro l n hn hj h1 h2
    rw [hup]
    split
    · rename_i h
      obtain ⟨h0, hlt⟩ := h
      have hg := fun k hk => swp_get (l := l) (i := (j - 1) / 2) (j := j) (k := k) (by omega) (by omega) hk
      refine ih _ (by omega) _ n (by rw [swp_len]; exact hn) (by omega) (fun k hk0 hkn hne => ?_) (fun k hk0 hkn hp hp0 => ?_)
      · rw [hg k (by omega), hg ((k - 1) / 2) (by omega)]
        by_cases e : k = j
        · subst e
          rw [if_pos rfl, if_neg (by omega), if_pos rfl]
          exact tlt_asym hlt
        · rw [if_neg e, if_neg hne]
          by_cases e2 : (k - 1) / 2 = j
          · rw [if_pos e2]
            exact h2 k hk0 hkn e2 h0
          · rw [if_neg e2]
            by_cases e3 : (k - 1) / 2 = (j - 1) / 2
            · rw [if_pos e3]
              have h3 := h1 k hk0 hkn e
              rw [e3] at h3
              exact tlt_ntrans h3 (tlt_asym hlt)
            · rw [if_neg e3]
              exact h1 k hk0 hkn e
      · have hpp := h1 ((j - 1) / 2) hp0 (by omega) (by omega)
        rw [hg k (by omega), hg (((j - 1) / 2 - 1) / 2) (by omega)]
        by_cases e : k = j
        · rw [if_pos e, if_neg (by omega), if_neg (by omega)]
          exact hpp
        · rw [if_neg e, if_neg (by omega), if_neg (by omega), if_neg (by omega)]
          have h3 := h1 k hk0 hkn e
          rw [hp] at h3
          exact tlt_ntrans h3 hpp
    · rename_i h
      intro k hk0 hkn
      by_cases e : k = j
      · subst e
        exact Bool.eq_false_iff.2 fun e2 => h ⟨hk0, e2⟩
      · exact h1 k hk0 hkn e
theorem kid_min {l : List Tm} {i n k : Nat} (h : 2 * i + 1 < n) (hk : k = 2 * i + 1 ∨ k = 2 * i + 2) (hkn : k < n) : tlt (l.getD k (0, 0)) (l.getD (kid l i n) (0, 0)) = false := by
  unfold kid
  split
  · rename_i h2
    rcases hk with rfl | rfl
    · exact tlt_asym h2.2
    · exact tlt_irr _
  · rename_i h2
    rcases hk with rfl | rfl
    · exact tlt_irr _
    · exact Bool.eq_false_iff.2 fun e => h2 ⟨hkn, e⟩
theorem hdn_len : ∀ (m i n : Nat) (l : List Tm), n - i = m → (hdn l i n).1.length = l.length := by
  intro m
  induction m using Nat.strongRecOn with
  | _ m ih =>
    intro i n l hm
    rw [hdn]
    split
    · have := kid_or l i n
      rw [ih (n - kid l i n) (by omega) _ n _ rfl, swp_len]
    · rfl
theorem hdn_perm : ∀ (m i n : Nat) (l : List Tm), n - i = m → n ≤ l.length → (hdn l i n).1.Perm l := by
  intro m
  induction m using Nat.strongRecOn with
  | _ m ih =>
    intro i n l hm hn
    rw [hdn]
    split
    · have := kid_or l i n
      exact (ih (n - kid l i n) (by omega) _ n _ rfl (by rw [swp_len]; exact hn)).trans (swp_perm l (by omega) (by omega))
    · exact List.Perm.refl _
theorem hdn_far : ∀ (m i n : Nat) (l : List Tm) (k : Nat), n - i = m → n ≤ l.length → n ≤ k → k < l.length → (hdn l i n).1.getD k (0, 0) = l.getD k (0, 0) := by
  intro m
  induction m using Nat.strongRecOn with
  | _ m ih =>
    intro i n l k hm hn hk hl
    rw [hdn]
    split
    · have := kid_or l i n
      rw [ih (n - kid l i n) (by omega) _ n _ k rfl (by rw [swp_len]; exact hn) hk (by rw [swp_len]; exact hl), swp_get (by omega) (by omega) hl, if_neg (by omega), if_neg (by omega)]
    · rfl
theorem hdn_ge : ∀ (m i n : Nat) (l : List Tm), n - i = m → i ≤ (hdn l i n).2 := by
  intro m
  induction m using Nat.strongRecOn with
  | _ m ih =>
    intro i n l hm
    rw [hdn]
    split
    · have := kid_or l i n
      have := ih (n - kid l i n) (by omega) _ n (swp l i (kid l i n)) rfl
      omega
    · exact Nat.le_refl _
/-- All stands as in a heap but for i and its children; these stand below i's parent. -/
theorem hdn_heap : ∀ (m i n : Nat) (l : List Tm), n - i = m → n ≤ l.length →
    (∀ k, 0 < k → k < n → (k - 1) / 2 ≠ i → tlt (l.getD k (0, 0)) (l.getD ((k - 1) / 2) (0, 0)) = false) →
    (∀ k, 0 < k → k < n → (k - 1) / 2 = i → 0 < i → tlt (l.getD k (0, 0)) (l.getD ((i - 1) / 2) (0, 0)) = false) → Hp (hdn l i n).1 n := by
  intro m
  induction m using Nat.strongRecOn with
  | _ m ih =>
    intro i n l hm hn h1 h2
    rw [hdn]
    split
    · rename_i h
      obtain ⟨hj, hlt⟩ := h
      have hko := kid_or l i n
      have hkm := fun k => kid_min (l := l) (i := i) (n := n) (k := k) hj
      have hg := fun k hk => swp_get (l := l) (i := i) (j := kid l i n) (k := k) (by omega) (by omega) hk
      generalize kid l i n = c at *
      refine ih (n - c) (by omega) c n _ rfl (by rw [swp_len]; exact hn) (fun k hk0 hkn hne => ?_) (fun k hk0 hkn hp hp0 => ?_)
      · rw [hg k (by omega), hg ((k - 1) / 2) (by omega), if_neg hne]
        by_cases e : k = c
        · subst e
          rw [if_pos rfl, if_pos (by omega)]
          exact tlt_asym hlt
        · rw [if_neg e]
          by_cases e2 : k = i
          · subst e2
            rw [if_pos rfl, if_neg (by omega)]
            exact h2 c (by omega) (by omega) (by omega) hk0
          · rw [if_neg e2]
            by_cases e3 : (k - 1) / 2 = i
            · rw [if_pos e3]
              exact hkm k (by omega) hkn
            · rw [if_neg e3]
              exact h1 k hk0 hkn e3
      · have e4 : (c - 1) / 2 = i := by omega
        rw [hg k (by omega), hg ((c - 1) / 2) (by omega), if_neg (by omega), if_neg (by omega), if_neg (by omega), if_pos e4]
        have h3 := h1 k hk0 hkn (by omega)
        rw [hp] at h3
        exact h3
    · rename_i h
      intro k hk0 hkn
      by_cases e : (k - 1) / 2 = i
      · have hj : 2 * i + 1 < n := by omega
        have h3 : tlt (l.getD (kid l i n) (0, 0)) (l.getD i (0, 0)) = false := Bool.eq_false_iff.2 fun e2 => h ⟨hj, e2⟩
        rw [e]
        exact tlt_ntrans (kid_min hj (by omega) hkn) h3
      · exact h1 k hk0 hkn e
end Go.Proofs.Ytjnhplgdbdneiaa
