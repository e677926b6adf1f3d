/-
  SchedSplit in plain words: a run of more steps begins with that of fewer; who was picked was ready; where nobody is ready no pick changes anything.
-/
import Derived.Test.YtompelilflckkaaWa
namespace Go.Proofs.Ytompelilflckkaa
open Go.RowKit Go.Fl

theorem doM_trace {s s2 : S} {i : Nat} (h : doM s i = .ok s2) : s2.trace = s.trace := by
  unfold doM at h
  dsimp only at h
  by_cases hk : (s.ts i).act.kind = 1
  · rw [if_pos hk] at h
    injection h with h; subst h; rfl
  rw [if_neg hk] at h; clear hk
  by_cases hk : (s.ts i).act.kind = 2
  · rw [if_pos hk] at h
    by_cases hl : s.locks (s.ts i).act.a.toNat = i
    · rw [if_pos hl] at h; injection h with h; subst h; rfl
    · rw [if_neg hl] at h; cases h
  rw [if_neg hk] at h; clear hk
  by_cases hk : (s.ts i).act.kind = 3
  · rw [if_pos hk] at h
    by_cases hw : (s.ts i).wait = 0
    · rw [if_pos hw] at h
      by_cases hl : s.locks (s.ts i).act.b.toNat = i
      · rw [if_pos hl] at h; injection h with h; subst h; rfl
      · rw [if_neg hl] at h; cases h
    · rw [if_neg hw] at h; injection h with h; subst h; rfl
  rw [if_neg hk] at h; clear hk
  by_cases hk : (s.ts i).act.kind = 4
  · rw [if_pos hk] at h
    injection h with h; subst h; exact wakeAll_trace _ _
  rw [if_neg hk] at h; clear hk
  by_cases hk : (s.ts i).act.kind = 5
  · rw [if_pos hk] at h
    injection h with h; subst h; exact wakeAll_trace _ _
  rw [if_neg hk] at h; clear hk
  by_cases hk : (s.ts i).act.kind = 6
  · rw [if_pos hk] at h
    injection h with h; subst h; rfl
  rw [if_neg hk] at h; clear hk
  by_cases hk : (s.ts i).act.kind = 7
  · rw [if_pos hk] at h
    injection h with h; subst h; rfl
  rw [if_neg hk] at h; clear hk
  by_cases hk : (s.ts i).act.kind = 8
  · rw [if_pos hk] at h
    injection h with h; subst h; rfl
  rw [if_neg hk] at h; clear hk
  by_cases hk : (s.ts i).act.kind = 9
  · rw [if_pos hk] at h
    injection h with h; subst h; rfl
  rw [if_neg hk] at h; clear hk
  by_cases hk : (s.ts i).act.kind = 10
  · rw [if_pos hk] at h
    injection h with h; subst h
    by_cases hz : s.regs (s.ts i).act.a.toNat = 0
    · rw [if_pos hz]; rfl
    · rw [if_neg hz]; rfl
  rw [if_neg hk] at h; clear hk
  by_cases hk : (s.ts i).act.kind = 12
  · rw [if_pos hk] at h
    cases h
  rw [if_neg hk] at h; clear hk
  by_cases hk : (s.ts i).act.kind = 13
  · rw [if_pos hk] at h
    injection h with h; subst h; rfl
  rw [if_neg hk] at h; clear hk
  injection h with h; subst h; rfl
theorem step_tr (s : S) (i : Nat) : (step s i).trace = s.trace ++ [(i, (s.ts i).pc)] := by
  unfold step
  cases h : doM (mark s i) i with
  | ok s2 => exact doM_trace h
  | error n =>
    show (caught (mark s i) i n).trace = _
    unfold caught
    split <;> rfl
theorem all_pre (picks : List Nat) : ∀ (k : Nat) (s : S), ∃ t, (all picks k s).trace = s.trace ++ t ∧ t.length ≤ k ∧ (t.length < k → ready (all picks k s) = [] ∧ (t = [] → all picks k s = s))
  | 0, s => ⟨[], by rw [List.append_nil]; rfl, Nat.le_refl _, fun h => absurd h (Nat.not_lt_zero _)⟩
  | k + 1, s => by
    by_cases hr : ready s = []
    · rw [allStop hr]
      exact ⟨[], (List.append_nil _).symm, Nat.zero_le _, fun _ => ⟨hr, fun _ => rfl⟩⟩
    · rw [allGo hr]
      obtain ⟨t, h1, h2, h3⟩ := all_pre picks k (step s (next s (ready s) picks))
      refine ⟨(next s (ready s) picks, (s.ts (next s (ready s) picks)).pc) :: t, ?_, by simpa using h2, fun h => ⟨(h3 (by simpa using h)).1, fun e => by cases e⟩⟩
      rw [h1, step_tr, List.append_assoc]; rfl
theorem all_add (picks : List Nat) (b : Nat) : ∀ (a : Nat) (s : S), all picks (a + b) s = all picks b (all picks a s)
  | 0, s => by rw [Nat.zero_add]; rfl
  | a + 1, s => by
    by_cases hr : ready s = []
    · rw [allStop hr, allStop hr, allStop hr]
    · rw [show a + 1 + b = (a + b) + 1 by omega, allGo hr, allGo hr, all_add picks b a]
theorem next_agree {s : S} {l p q : List Nat} (h : p[s.trace.length]? = q[s.trace.length]?) : next s l p = next s l q := by
  unfold next
  by_cases hp : s.trace.length < p.length
  · rw [List.getElem?_eq_getElem hp] at h
    have hq : s.trace.length < q.length := by
      by_cases e : s.trace.length < q.length
      · exact e
      · rw [List.getElem?_eq_none (by omega)] at h; cases h
    rw [List.getElem?_eq_getElem hq] at h
    injection h with h
    rw [dif_pos hp, dif_pos hq, h]
  · rw [List.getElem?_eq_none (by omega)] at h
    have hq : ¬ s.trace.length < q.length := fun e => by
      rw [List.getElem?_eq_getElem e] at h; cases h
    rw [dif_neg hp, dif_neg hq]
theorem all_agree {p q : List Nat} : ∀ (k : Nat) (s : S), (∀ j, s.trace.length ≤ j → j < s.trace.length + k → p[j]? = q[j]?) → all p k s = all q k s
  | 0, _, _ => rfl
  | k + 1, s, h => by
    by_cases hr : ready s = []
    · rw [allStop hr, allStop hr]
    · rw [allGo hr, allGo hr, next_agree (h _ (Nat.le_refl _) (by omega))]
      refine all_agree k _ fun j h1 h2 => ?_
      rw [step_tr, List.length_append] at h1 h2
      simp only [List.length_cons, List.length_nil] at h1 h2
      exact h j (by omega) (by omega)
section
variable {s : S} {picks : List Nat} {m : Nat}
/-- A run of fewer steps is the front of one of more. -/
theorem split_cut (h0 : s.trace = []) {cut : Nat} (hc : cut ≤ (all picks m s).trace.length) : (all picks cut s).trace = (all picks m s).trace.take cut ∧ (all picks cut s).trace.length = cut := by
  obtain ⟨t, h1, h2, h3⟩ := all_pre picks m s
  rw [h0, List.nil_append] at h1
  have hm : cut ≤ m := by rw [h1] at hc; omega
  obtain ⟨u, k1, k2, k3⟩ := all_pre picks cut s
  rw [h0, List.nil_append] at k1
  obtain ⟨x, l1, l2, l3⟩ := all_pre picks (m - cut) (all picks cut s)
  rw [← all_add, show cut + (m - cut) = m by omega] at l1 l3
  have hu : u.length = cut := by
    by_cases e : u.length < cut
    · have hr := (k3 e).1
      have : all picks m s = all picks cut s := by
        rw [show m = cut + (m - cut) by omega, all_add, allStop hr]
      rw [this, k1] at hc
      omega
    · omega
  refine ⟨?_, by rw [k1]; exact hu⟩
  rw [l1, k1, List.take_append_of_le_length (by omega), List.take_of_length_le (by omega)]
/-- Who was picked was ready. -/
theorem split_pick (h0 : s.trace = []) {i : Nat} (hi : i < (all picks m s).trace.length) (hp : i < picks.length) : ready (all (picks.take i) i s) ≠ [] ∧ ((all picks m s).trace[i]).1 = (ready (all (picks.take i) i s)).getD (picks[i] % (ready (all (picks.take i) i s)).length) 0 := by
  have e : all (picks.take i) i s = all picks i s := all_agree i s fun j _ h2 => by
    rw [h0] at h2
    simp only [List.length_nil] at h2
    rw [List.getElem?_take, if_pos (by omega)]
  rw [e]
  obtain ⟨k1, k2⟩ := split_cut (m := m) (picks := picks) h0 (cut := i) (by omega)
  obtain ⟨l1, l2⟩ := split_cut (m := m) (picks := picks) h0 (cut := i + 1) (by omega)
  have hr : ready (all picks i s) ≠ [] := fun hr => by
    rw [all_add, allStop hr] at l2
    omega
  have hs : all picks (i + 1) s = step (all picks i s) (next (all picks i s) (ready (all picks i s)) picks) := by
    rw [all_add, show (1 : Nat) = 0 + 1 from rfl, allGo hr]; rfl
  refine ⟨hr, ?_⟩
  have h3 : ((all picks (i + 1) s).trace)[i]? = some (next (all picks i s) (ready (all picks i s)) picks, ((all picks i s).ts (next (all picks i s) (ready (all picks i s)) picks)).pc) := by
    rw [hs, step_tr, List.getElem?_append_right (by omega), k2, Nat.sub_self]; rfl
  rw [l1, List.getElem?_take, if_pos (by omega), List.getElem?_eq_getElem hi] at h3
  injection h3 with h3
  rw [h3]
  show next (all picks i s) (ready (all picks i s)) picks = _
  unfold next
  rw [dif_pos (by omega)]
  simp only [k2]
/-- Where nobody is ready no further pick changes anything. -/
theorem split_more (h0 : s.trace = []) (h1 : (all picks m s).trace.length < m) (h2 : (all picks m s).trace.length ≤ picks.length) (more : List Nat) : all (picks ++ more) m s = all picks m s := by
  obtain ⟨L, hL⟩ : ∃ L, L = (all picks m s).trace.length := ⟨_, rfl⟩
  rw [← hL] at h1 h2
  obtain ⟨k1, k2⟩ := split_cut (m := m) (picks := picks) h0 (cut := L) (by omega)
  obtain ⟨x, l1, l2, l3⟩ := all_pre picks (m - L) (all picks L s)
  rw [← all_add, show L + (m - L) = m by omega] at l1 l3
  have hx : x = [] := by
    have : (all picks m s).trace.length = L + x.length := by rw [l1, List.length_append, k2]
    exact List.length_eq_zero_iff.1 (by omega)
  obtain ⟨hr, he⟩ := l3 (by rw [hx]; simp; omega)
  have he := he hx
  have ha : all (picks ++ more) L s = all picks L s := all_agree L s fun j _ h3 => by
    rw [h0] at h3
    simp only [List.length_nil] at h3
    rw [List.getElem?_append_left (by omega)]
  rw [show m = L + (m - L) by omega, all_add, ha, ← he, allStop hr, show L + (m - L) = m by omega]
end
end Go.Proofs.Ytompelilflckkaa
