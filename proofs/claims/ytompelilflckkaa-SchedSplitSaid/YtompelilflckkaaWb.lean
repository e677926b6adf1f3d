/-
  SchedQueues in plain words: who puts and who takes: a run of them.
-/
import Derived.Test.YtompelilflckkaaWa
namespace Go.Proofs.Ytompelilflckkaa
open Go.RowKit Go.Fl

def qPut (n : Nat) : List A := (List.range n).map fun (i : Nat) => ⟨6, 0, 0, (i : Int)⟩
def qTake (n : Nat) : List A := (List.range n).map fun (_ : Nat) => ⟨7, 0, 3, 0⟩
def qTasks (n : Nat) : List (List A) := [qPut n, qTake n]
theorem qPut_len (n : Nat) : (qPut n).length = n := by simp [qPut]
theorem qTake_len (n : Nat) : (qTake n).length = n := by simp [qTake]
theorem qPut_at {n i : Nat} (h : i < n) : (qPut n).getD i A.none = ⟨6, 0, 0, (i : Int)⟩ := by
  rw [List.getD_eq_getElem?_getD, List.getElem?_eq_getElem (by rw [qPut_len]; exact h)]
  simp [qPut]
theorem qTake_at {n i : Nat} (h : i < n) : (qTake n).getD i A.none = ⟨7, 0, 3, 0⟩ := by
  rw [List.getD_eq_getElem?_getD, List.getElem?_eq_getElem (by rw [qTake_len]; exact h)]
  simp [qTake]
/-- How many more were put than taken. -/
def level : List (Nat × Nat) → Int
  | [] => 0
  | x :: l => (if x.1 = 0 then 1 else -1) + level l
theorem level_snoc (l : List (Nat × Nat)) (x : Nat × Nat) : level (l ++ [x]) = level l + if x.1 = 0 then 1 else -1 := by
  induction l with
  | nil => simp [level]
  | cons y l ih => simp only [List.cons_append, level, ih]; omega
/-- p were put, t were taken. -/
structure QI (n room p t : Nat) (s : S) : Prop where
  sn : s.n = 2
  rm : s.room = room
  t0 : s.ts 0 = ⟨qPut n, p, -1, 0, false, 0⟩
  t1 : s.ts 1 = ⟨qTake n, t, -1, 0, false, 0⟩
  le : t ≤ p ∧ p ≤ n ∧ p ≤ t + room
  q : s.queues 0 = (List.range' t (p - t)).map fun k => ((k : Nat) : Int)
  r3 : s.regs 3 = if t = 0 then 0 else ((t - 1 : Nat) : Int)
  tr : s.trace.length = p + t
  lv : level s.trace = (p : Int) - t
  ok : ∀ k, k ≤ s.trace.length → 0 ≤ level (s.trace.take k) ∧ level (s.trace.take k) ≤ room
theorem QI.act0 {n room p t : Nat} {s : S} (h : QI n room p t s) (hp : p < n) : (s.ts 0).act = ⟨6, 0, 0, (p : Int)⟩ := by rw [h.t0]; exact qPut_at hp
theorem QI.act1 {n room p t : Nat} {s : S} (h : QI n room p t s) (hp : t < n) : (s.ts 1).act = ⟨7, 0, 3, 0⟩ := by rw [h.t1]; exact qTake_at hp
theorem QI.qlen {n room p t : Nat} {s : S} (h : QI n room p t s) : (s.queues 0).length = p - t := by rw [h.q]; simp
theorem QI.how0 {n room p t : Nat} {s : S} (h : QI n room p t s) : how s (s.ts 0) = if p = n then 1 else if p = t + room then 6 else 3 := by
  have hl := h.le
  by_cases hp : p = n
  · rw [if_pos hp]
    unfold how
    rw [if_neg (by rw [h.t0]; simp), if_pos (by rw [h.t0, ]; show (qPut n).length ≤ p; rw [qPut_len]; omega)]
  · rw [if_neg hp]
    have ha := h.act0 (by omega)
    have hql := h.qlen
    unfold how
    rw [if_neg (by rw [h.t0]; simp), if_neg (by rw [h.t0, ]; show ¬ (qPut n).length ≤ p; rw [qPut_len]; omega), ha, h.rm]
    dsimp only
    rw [if_neg (by omega), if_neg (by omega)]
    show (if (6 : Int) = 6 ∧ (room : Int) ≤ (s.queues 0).length then (6 : Int) else if (6 : Int) = 7 ∧ s.queues 0 = [] then 7 else 3) = _
    rw [hql]
    by_cases hr : p = t + room
    · rw [if_pos hr, if_pos (by omega)]
    · rw [if_neg hr, if_neg (by omega), if_neg (by omega)]
theorem QI.how1 {n room p t : Nat} {s : S} (h : QI n room p t s) : how s (s.ts 1) = if t = n then 1 else if p = t then 7 else 3 := by
  have hl := h.le
  by_cases hp : t = n
  · rw [if_pos hp]
    unfold how
    rw [if_neg (by rw [h.t1]; simp), if_pos (by rw [h.t1, ]; show (qTake n).length ≤ t; rw [qTake_len]; omega)]
  · rw [if_neg hp]
    have ha := h.act1 (by omega)
    have hql := h.qlen
    unfold how
    rw [if_neg (by rw [h.t1]; simp), if_neg (by rw [h.t1, ]; show ¬ (qTake n).length ≤ t; rw [qTake_len]; omega), ha, h.rm]
    dsimp only
    rw [if_neg (by omega), if_neg (by omega)]
    show (if (7 : Int) = 6 ∧ (room : Int) ≤ (s.queues 0).length then (6 : Int) else if (7 : Int) = 7 ∧ s.queues 0 = [] then 7 else 3) = _
    rw [if_neg (by omega)]
    by_cases hr : p = t
    · rw [if_pos hr, if_pos ⟨rfl, List.length_eq_zero_iff.1 (by omega)⟩]
    · rw [if_neg hr, if_neg (by rintro ⟨_, e⟩; rw [e] at hql; simp at hql; omega)]
theorem QI.put {n room p t : Nat} {s : S} (h : QI n room p t s) (hp : p < n) (hr : p < t + room) : QI n room (p + 1) t (step s 0) ∧ (step s 0).trace.length = s.trace.length + 1 := by
  have ha := h.act0 hp
  have hl := h.le
  rw [step_put ha]
  have htr : (((mark s 0).setQueue (0 : Int).toNat (s.queues (0 : Int).toNat ++ [(p : Int)])).go 0).trace = s.trace ++ [(0, (s.ts 0).pc)] := rfl
  refine ⟨⟨h.sn, h.rm, ?_, ?_, by omega, ?_, h.r3, ?_, ?_, ?_⟩, ?_⟩
  · rw [go_at]
    show { s.ts 0 with pc := (s.ts 0).pc + 1 } = _
    rw [h.t0]
  · rw [go_ne _ (by omega)]
    exact h.t1
  · show (upd s.queues 0 (s.queues 0 ++ [(p : Int)])) 0 = _
    rw [upd_same, h.q, show p + 1 - t = (p - t) + 1 by omega, List.range'_concat, List.map_append]
    simp; omega
  · rw [htr, List.length_append, h.tr]; simp; omega
  · rw [htr, level_snoc, h.lv, if_pos rfl]; omega
  · intro k hk
    rw [htr] at hk ⊢
    rw [List.length_append] at hk
    by_cases hk2 : k ≤ s.trace.length
    · rw [List.take_append_of_le_length hk2]
      exact h.ok k hk2
    · rw [List.take_of_length_le (by rw [List.length_append]; simp at hk ⊢; omega), level_snoc, h.lv, if_pos rfl]; omega
  · rw [htr, List.length_append]; rfl
theorem QI.take {n room p t : Nat} {s : S} (h : QI n room p t s) (hp : t < n) (hr : t < p) : QI n room p (t + 1) (step s 1) ∧ (step s 1).trace.length = s.trace.length + 1 := by
  have ha := h.act1 hp
  have hl := h.le
  rw [step_take ha]
  have htr : ((((mark s 1).setReg (3 : Int).toNat ((s.queues (0 : Int).toNat).getD 0 0)).setQueue (0 : Int).toNat ((s.queues (0 : Int).toNat).drop 1)).go 1).trace = s.trace ++ [(1, (s.ts 1).pc)] := rfl
  have hq : s.queues 0 = (t : Int) :: (List.range' (t + 1) (p - (t + 1))).map fun k => ((k : Nat) : Int) := by
    rw [h.q, show p - t = (p - (t + 1)) + 1 by omega, List.range'_succ, List.map_cons]
  refine ⟨⟨h.sn, h.rm, ?_, ?_, by omega, ?_, ?_, ?_, ?_, ?_⟩, ?_⟩
  · rw [go_ne _ (by omega)]
    exact h.t0
  · rw [go_at]
    show { s.ts 1 with pc := (s.ts 1).pc + 1 } = _
    rw [h.t1]
  · show (upd s.queues 0 ((s.queues 0).drop 1)) 0 = _
    rw [upd_same, hq]
    rfl
  · show (upd s.regs 3 ((s.queues 0).getD 0 0)) 3 = _
    rw [upd_same, hq, if_neg (by omega)]
    rfl
  · rw [htr, List.length_append, h.tr]; simp; omega
  · rw [htr, level_snoc, h.lv, if_neg (by simp)]; omega
  · intro k hk
    rw [htr] at hk ⊢
    rw [List.length_append] at hk
    by_cases hk2 : k ≤ s.trace.length
    · rw [List.take_append_of_le_length hk2]
      exact h.ok k hk2
    · rw [List.take_of_length_le (by rw [List.length_append]; simp at hk ⊢; omega), level_snoc, h.lv, if_neg (by simp)]; omega
  · rw [htr, List.length_append]; rfl
/-- What a run comes to. -/
theorem queues_end {n room : Nat} (h1 : 1 ≤ n) (h2 : n ≤ 100) (h3 : 1 ≤ room) (picks : List Nat) : ∃ s, all picks 65536 (begin_ (qTasks n) room) = s ∧ s.n = 2 ∧ s.trace.length = 2 * n ∧ s.regs 3 = ((n - 1 : Nat) : Int) ∧ how s (s.ts 0) = 1 ∧ how s (s.ts 1) = 1 ∧ ∀ k, k ≤ s.trace.length → 0 ≤ level (s.trace.take k) ∧ level (s.trace.take k) ≤ room := by
  have h0 : QI n room 0 0 (begin_ (qTasks n) room) := ⟨rfl, rfl, rfl, rfl, by omega, rfl, rfl, rfl, rfl, fun k hk => by
    have : k = 0 := by simpa [begin_] using hk
    subst this
    show 0 ≤ level [] ∧ level [] ≤ _
    simp [level]⟩
  obtain ⟨⟨p, t, h⟩, hr⟩ := all_end (Inv := fun s => ∃ p t, QI n room p t s) (B := 2 * n) picks (fun s i ⟨p, t, h⟩ hi hh => by
    have hl := h.le
    rw [h.sn] at hi
    match i, hi, hh with
    | 0, _, hh =>
      rw [h.how0] at hh
      by_cases e : p = n
      · rw [if_pos e] at hh; omega
      · rw [if_neg e] at hh
        by_cases e2 : p = t + room
        · rw [if_pos e2] at hh; omega
        · have := h.put (by omega) (by omega)
          exact ⟨⟨_, _, this.1⟩, this.2⟩
    | 1, _, hh =>
      rw [h.how1] at hh
      by_cases e : t = n
      · rw [if_pos e] at hh; omega
      · rw [if_neg e] at hh
        by_cases e2 : p = t
        · rw [if_pos e2] at hh; omega
        · have := h.take (by omega) (by omega)
          exact ⟨⟨_, _, this.1⟩, this.2⟩) (fun s ⟨p, t, h⟩ => by have := h.le; rw [h.tr]; omega) 65536 _ ⟨0, 0, h0⟩ (by omega)
  refine ⟨_, rfl, h.sn, ?_⟩
  generalize all picks 65536 (begin_ (qTasks n) room) = s at h hr ⊢
  have hl := h.le
  have hn0 : how s (s.ts 0) ≠ 3 := fun e => by
    have : 0 ∈ ready s := rdy_mem.2 ⟨by rw [h.sn]; omega, e⟩
    rw [hr] at this; cases this
  have hn1 : how s (s.ts 1) ≠ 3 := fun e => by
    have : 1 ∈ ready s := rdy_mem.2 ⟨by rw [h.sn]; omega, e⟩
    rw [hr] at this; cases this
  have e0 := h.how0
  have e1 := h.how1
  have ht : t = n := by
    by_cases c : t = n
    · exact c
    · rw [if_neg c] at e1
      by_cases c2 : p = t
      · rw [if_neg (by omega), if_neg (by omega)] at e0; exact absurd e0 hn0
      · rw [if_neg c2] at e1; exact absurd e1 hn1
  have hp : p = n := by omega
  subst hp
  subst ht
  refine ⟨by rw [h.tr]; omega, by rw [h.r3, if_neg (by omega)], by rw [e0, if_pos rfl], by rw [e1, if_pos rfl], h.ok⟩
end Go.Proofs.Ytompelilflckkaa
