/-
  A clock's timers, in plain words: put in, taken out; the heap as the list in order.
-/
import Derived.Test.YtjnhplgdbdneiaaCa
set_option linter.unusedSimpArgs false
set_option linter.unusedVariables false
namespace Go.Proofs.Ytjnhplgdbdneiaa

def hpush (l : List Tm) (x : Tm) : List Tm := hup (l ++ [x]) l.length
/-- The list behind the heap's work, the one that goes as its last. -/
def hrot (l : List Tm) (i : Nat) : List Tm :=
  if l.length - 1 ≠ i then if i < (hdn (swp l i (l.length - 1)) i (l.length - 1)).2 then (hdn (swp l i (l.length - 1)) i (l.length - 1)).1 else hup (hdn (swp l i (l.length - 1)) i (l.length - 1)).1 i else l
def hrot0 (l : List Tm) : List Tm := (hdn (swp l 0 (l.length - 1)) 0 (l.length - 1)).1
theorem hpush_len (l : List Tm) (x : Tm) : (hpush l x).length = l.length + 1 := by
  unfold hpush
  rw [hup_len]
  simp
theorem hpush_perm (l : List Tm) (x : Tm) : (hpush l x).Perm (l ++ [x]) := hup_perm _ _ (by simp)
theorem app_get {l : List Tm} {x : Tm} {k : Nat} (h : k < l.length) : (l ++ [x]).getD k (0, 0) = l.getD k (0, 0) := by
  rw [List.getD_eq_getElem?_getD, List.getD_eq_getElem?_getD, List.getElem?_append_left h]
theorem hpush_heap {l : List Tm} {x : Tm} (h : Hp l l.length) : Hp (hpush l x) (hpush l x).length := by
  rw [hpush_len]
  refine hup_heap _ _ _ (by simp) (by omega) (fun k h0 hk hne => ?_) (fun k h0 hk hp _ => by omega)
  rw [app_get (by omega), app_get (by omega)]
  exact h k h0 (by omega)
theorem hp_same {l m : List Tm} {n : Nat} (h : Hp l n) (he : ∀ k, k < n → m.getD k (0, 0) = l.getD k (0, 0)) : Hp m n := fun k h0 hk => by
  rw [he k hk, he _ (by omega)]
  exact h k h0 hk
theorem take_get {l : List Tm} {n k : Nat} (h : k < n) : (l.take n).getD k (0, 0) = l.getD k (0, 0) := by
  rw [List.getD_eq_getElem?_getD, List.getD_eq_getElem?_getD, List.getElem?_take, if_pos h]
theorem hup_zero (l : List Tm) : hup l 0 = l := by
  rw [hup, dif_neg (by omega)]
structure Rot (l : List Tm) (i : Nat) (m : List Tm) : Prop where
  len : m.length = l.length
  perm : m.Perm l
  last : m.getD (l.length - 1) (0, 0) = l.getD i (0, 0)
  heap : Hp m (l.length - 1)
theorem hrot_ok {l : List Tm} {i : Nat} (h : Hp l l.length) (hi : i < l.length) : Rot l i (hrot l i) := by
  unfold hrot
  split
  · rename_i hne
    have hg := fun k hk => swp_get (l := l) (i := i) (j := l.length - 1) (k := k) hi (by omega) hk
    have hl := hdn_len _ i (l.length - 1) (swp l i (l.length - 1)) rfl
    have hp := hdn_perm _ i (l.length - 1) (swp l i (l.length - 1)) rfl (by rw [swp_len]; omega)
    have hf := fun k h1 h2 => hdn_far _ i (l.length - 1) (swp l i (l.length - 1)) k rfl (by rw [swp_len]; omega) h1 h2
    have hgg := hdn_ge _ i (l.length - 1) (swp l i (l.length - 1)) rfl
    rw [swp_len] at hl
    have hlast : (swp l i (l.length - 1)).getD (l.length - 1) (0, 0) = l.getD i (0, 0) := by rw [hg _ (by omega), if_pos rfl]
    have hin : ∀ k, k < l.length - 1 → k ≠ i → (swp l i (l.length - 1)).getD k (0, 0) = l.getD k (0, 0) := fun k hk hki => by
      rw [hg k (by omega), if_neg (by omega), if_neg hki]
    have hkids : ∀ k, 0 < k → k < l.length - 1 → (k - 1) / 2 = i → 0 < i → tlt ((swp l i (l.length - 1)).getD k (0, 0)) ((swp l i (l.length - 1)).getD ((i - 1) / 2) (0, 0)) = false := fun k h0 hk hki hi0 => by
      rw [hin k hk (by omega), hin _ (by omega) (by omega)]
      have h1 := h k h0 (by omega)
      rw [hki] at h1
      exact tlt_ntrans h1 (h i hi0 hi)
    split
    · rename_i hmv
      refine ⟨hl, hp.trans (swp_perm l hi (by omega)), (hf _ (Nat.le_refl _) (by rw [swp_len]; omega)).trans hlast, ?_⟩
      rw [hdn] at hmv ⊢
      split at hmv
      · rename_i hc
        rw [dif_pos hc]
        obtain ⟨hj, hlt⟩ := hc
        have hko := kid_or (swp l i (l.length - 1)) i (l.length - 1)
        have hkm := fun k => kid_min (l := swp l i (l.length - 1)) (i := i) (n := l.length - 1) (k := k) hj
        have hg2 := fun k hk => swp_get (l := swp l i (l.length - 1)) (i := i) (j := kid (swp l i (l.length - 1)) i (l.length - 1)) (k := k) (by rw [swp_len]; omega) (by rw [swp_len]; omega) hk
        have hsl := swp_len l i (l.length - 1)
        clear hmv hl hp hf hgg hg
        generalize kid (swp l i (l.length - 1)) i (l.length - 1) = c at *
        generalize swp l i (l.length - 1) = m at *
        refine hdn_heap _ c (l.length - 1) _ rfl (by rw [swp_len]; omega) (fun k hk0 hkn hnc => ?_) (fun k hk0 hkn hp hp0 => ?_)
        · rw [hg2 k (by omega), hg2 ((k - 1) / 2) (by omega), if_neg hnc]
          by_cases e : k = c
          · subst e
            rw [if_pos rfl, if_pos (by omega)]
            exact tlt_asym hlt
          · rw [if_neg e]
            by_cases e2 : k = i
            · subst e2
              rw [if_pos rfl, if_neg (by omega)]
              exact hkids c (by omega) (by omega) (by omega) hk0
            · rw [if_neg e2]
              by_cases e3 : (k - 1) / 2 = i
              · rw [if_pos e3]
                exact hkm k (by omega) hkn
              · rw [if_neg e3, hin k hkn e2, hin _ (by omega) e3]
                exact h k hk0 (by omega)
        · have e4 : (c - 1) / 2 = i := by omega
          rw [hg2 k (by omega), hg2 ((c - 1) / 2) (by omega), if_neg (by omega), if_neg (by omega), if_neg (by omega), if_pos e4, hin k hkn (by omega), hin c (by omega) (by omega)]
          have h3 := h k hk0 (by omega)
          rw [hp] at h3
          exact h3
      · exact absurd hmv (Nat.lt_irrefl _)
    · rename_i hmv
      have he : (hdn (swp l i (l.length - 1)) i (l.length - 1)).1 = swp l i (l.length - 1) ∧ (2 * i + 1 < l.length - 1 → tlt ((swp l i (l.length - 1)).getD (kid (swp l i (l.length - 1)) i (l.length - 1)) (0, 0)) ((swp l i (l.length - 1)).getD i (0, 0)) = false) := by
        rw [hdn] at hmv ⊢
        split at hmv
        · rename_i hc
          exfalso
          have hko := kid_or (swp l i (l.length - 1)) i (l.length - 1)
          have := hdn_ge _ (kid (swp l i (l.length - 1)) i (l.length - 1)) (l.length - 1) (swp (swp l i (l.length - 1)) i (kid (swp l i (l.length - 1)) i (l.length - 1))) rfl
          omega
        · rename_i hc
          rw [dif_neg hc]
          exact ⟨rfl, fun hj => Bool.eq_false_iff.2 fun e => hc ⟨hj, e⟩⟩
      rw [he.1]
      have hsl := swp_len l i (l.length - 1)
      by_cases hin1 : i < l.length - 1
      · refine ⟨by rw [hup_len, hsl], (hup_perm _ _ (by omega)).trans (swp_perm l hi (by omega)), (hup_far _ _ _ hin1 (by omega)).trans hlast, ?_⟩
        refine hup_heap i _ _ (by omega) hin1 (fun k hk0 hkn hne2 => ?_) hkids
        by_cases e : (k - 1) / 2 = i
        · rw [e]
          exact tlt_ntrans (kid_min (n := l.length - 1) (by omega) (by omega) hkn) (he.2 (by omega))
        · rw [hin k hkn hne2, hin _ (by omega) e]
          exact h k hk0 (by omega)
      · omega
  · rename_i hne
    have hne : l.length - 1 = i := by omega
    exact ⟨rfl, List.Perm.refl _, by rw [hne], fun k h0 hk => h k h0 (by omega)⟩
theorem hrot0_eq {l : List Tm} (hl : 0 < l.length) : hrot0 l = hrot l 0 := by
  unfold hrot0 hrot
  split
  · split
    · rfl
    · rw [hup_zero]
  · rename_i h
    have h : l.length - 1 = 0 := by omega
    rw [h, swp_same l 0 hl, hdn, dif_neg (by omega)]
/-- In order. -/
def Srt (L : List Tm) : Prop := L.Pairwise fun x y => tlt x y = true
theorem srt_unique : ∀ {L M : List Tm}, Srt L → Srt M → L.Perm M → L = M
  | [], M, _, _, hp => hp.nil_eq
  | x :: L, [], _, _, hp => absurd hp.symm.nil_eq (by simp)
  | x :: L, y :: M, h, k, hp => by
    have hxy : x = y := by
      have h1 : y ∈ x :: L := hp.mem_iff.2 (by simp)
      have h2 : x ∈ y :: M := hp.mem_iff.1 (by simp)
      rcases List.mem_cons.1 h1 with e | e
      · exact e.symm
      · rcases List.mem_cons.1 h2 with e2 | e2
        · exact e2
        · have h3 := (List.pairwise_cons.1 h).1 y e
          have h4 := (List.pairwise_cons.1 k).1 x e2
          rw [tlt_asym h3] at h4
          cases h4
    subst hxy
    rw [srt_unique (List.pairwise_cons.1 h).2 (List.pairwise_cons.1 k).2 ((List.perm_cons x).1 hp)]
/-- A heap and its list in order. -/
structure Rel (l L : List Tm) : Prop where
  heap : Hp l l.length
  srt : Srt L
  perm : l.Perm L
theorem Rel.len {l L : List Tm} (h : Rel l L) : l.length = L.length := h.perm.length_eq
theorem Rel.nil : Rel [] [] := ⟨fun k h0 hk => by simp at hk, List.Pairwise.nil, List.Perm.refl _⟩
theorem Rel.head {l L : List Tm} {x : Tm} (h : Rel l (x :: L)) : l.getD 0 (0, 0) = x := by
  have hl := h.len
  simp only [List.length_cons] at hl
  have h0 : 0 < l.length := by omega
  have e0 : l.getD 0 (0, 0) = l[0] := by rw [List.getD_eq_getElem?_getD, List.getElem?_eq_getElem h0]; rfl
  have hm : l.getD 0 (0, 0) ∈ x :: L := h.perm.mem_iff.1 (by rw [e0]; exact List.getElem_mem h0)
  rcases List.mem_cons.1 hm with e | e
  · exact e
  · exfalso
    have h1 := (List.pairwise_cons.1 h.srt).1 _ e
    have hx : x ∈ l := h.perm.mem_iff.2 (by simp)
    obtain ⟨i, hi, hxi⟩ := List.getElem_of_mem hx
    have h2 := h.heap.min i hi
    rw [List.getD_eq_getElem?_getD, List.getElem?_eq_getElem hi] at h2
    simp only [Option.getD_some] at h2
    rw [hxi, h1] at h2
    cases h2
theorem rot_split {l m : List Tm} {i : Nat} (h : Rot l i m) (h0 : 0 < l.length) : (l.getD i (0, 0) :: m.take (l.length - 1)).Perm l := by
  have hl := h.len
  have e : m = m.take (l.length - 1) ++ [l.getD i (0, 0)] := by
    conv => lhs; rw [← List.take_append_drop (l.length - 1) m]
    congr 1
    rw [List.drop_eq_getElem_cons (by omega), List.drop_eq_nil_of_le (by omega), ← h.last, List.getD_eq_getElem?_getD, List.getElem?_eq_getElem (by omega)]
    rfl
  have h2 : m.Perm (l.getD i (0, 0) :: m.take (l.length - 1)) := by
    conv => lhs; rw [e]
    exact List.perm_append_singleton _ _
  exact h2.symm.trans h.perm
theorem rot_heap {l m : List Tm} {i : Nat} (h : Rot l i m) : Hp (m.take (l.length - 1)) (m.take (l.length - 1)).length := by
  have hl := h.len
  rw [List.length_take, Nat.min_eq_left (by omega)]
  exact hp_same h.heap fun k hk => take_get hk
/-- The first one has gone. -/
theorem Rel.pop {l L : List Tm} {x : Tm} (h : Rel l (x :: L)) : Rel ((hrot0 l).take (l.length - 1)) L := by
  have hl := h.len
  simp only [List.length_cons] at hl
  have hr := hrot_ok h.heap (i := 0) (by omega)
  rw [hrot0_eq (by omega)]
  have h1 := rot_split hr (by omega)
  rw [h.head] at h1
  exact ⟨rot_heap hr, (List.pairwise_cons.1 h.srt).2, (List.perm_cons x).1 (h1.trans h.perm)⟩
/-- One has been taken out. -/
theorem Rel.rem {l A B : List Tm} {x : Tm} {i : Nat} (h : Rel l (A ++ x :: B)) (hi : i < l.length) (hx : l.getD i (0, 0) = x) : Rel ((hrot l i).take (l.length - 1)) (A ++ B) := by
  have hr := hrot_ok h.heap hi
  have h1 := rot_split hr (by omega)
  rw [hx] at h1
  have h2 : (A ++ x :: B).Perm (x :: (A ++ B)) := List.perm_middle
  refine ⟨rot_heap hr, ?_, (List.perm_cons x).1 ((h1.trans h.perm).trans h2)⟩
  exact h.srt.sublist (List.Sublist.append (List.Sublist.refl A) (List.sublist_cons_self x B))
/-- One has been put in, with a number above all. -/
theorem Rel.push {l A B : List Tm} {x : Tm} (h : Rel l (A ++ B)) (hA : ∀ y ∈ A, y.2 ≤ x.2) (hB : ∀ y ∈ B, x.2 < y.2) (hid : ∀ y ∈ A, y.1 < x.1) : Rel (hpush l x) (A ++ x :: B) := by
  refine ⟨hpush_heap h.heap, ?_, ?_⟩
  · unfold Srt at *
    have h1 := List.pairwise_append.1 h.srt
    refine List.pairwise_append.2 ⟨h1.1, List.pairwise_cons.2 ⟨fun y hy => ?_, h1.2.1⟩, fun a ha b hb => ?_⟩
    · rw [tlt_iff]
      exact .inl (hB y hy)
    · rcases List.mem_cons.1 hb with rfl | hb
      · rw [tlt_iff]
        have h2 := hA a ha
        have h3 := hid a ha
        omega
      · exact h1.2.2 a ha b hb
  · refine (hpush_perm l x).trans ?_
    refine (List.perm_append_singleton x l).trans ?_
    exact ((List.perm_cons x).2 h.perm).trans List.perm_middle.symm
end Go.Proofs.Ytjnhplgdbdneiaa
