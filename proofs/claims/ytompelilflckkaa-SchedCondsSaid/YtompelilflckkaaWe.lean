/-
  SchedConds in plain words: each step keeps it; the end.
-/
import Derived.Test.YtompelilflckkaaWd
namespace Go.Proofs.Ytompelilflckkaa
open Go.RowKit Go.Fl

theorem trace_len (s : S) (i : Nat) : (s.trace ++ [(i, (s.ts i).pc)]).length = s.trace.length + 1 := by rw [List.length_append]; rfl
section
variable {cast : Bool} {n k : Nat} {ph : Nat → Nat} {s : S}
theorem CI.waiter (H : CI cast n ph k s) (hn15 : n ≤ 15) {i : Nat} (hi : i < n) (hh : how s (s.ts i) = 3) : CI cast n (upd ph i (ph i + 1)) k (step s i) ∧ (step s i).trace.length = s.trace.length + 1 := by
  have h7 := H.p7 i hi
  have hts := H.ts i hi
  have hlA := H.lkA i hi
  have hF := H.lkF
  have hcase : ph i = 0 ∨ ph i = 1 ∨ ph i = 2 ∨ ph i = 3 ∨ ph i = 4 ∨ ph i = 5 ∨ ph i = 6 ∨ ph i = 7 := by omega
  rcases hcase with e | e | e | e | e | e | e | e <;> rw [e] at hts hlA
  · have ha : (s.ts i).act = ⟨1, 0, 0, 0⟩ := by rw [hts]; rfl
    have hl : s.locks 0 = -1 := by
      by_cases h0 : 0 ≤ s.locks 0
      · unfold how at hh
        rw [if_neg (by rw [hts]; simp), if_neg (by rw [hts]; decide), ha, if_pos (.inl ⟨rfl, h0⟩)] at hh
        omega
      · omega
    rw [step_lock ha]
    have ht : (((mark s i).setLock (0 : Int).toNat i).go i).trace.length = s.trace.length + 1 := trace_len s i
    refine ⟨H.on hi (by omega) (by omega) (.inr hl) rfl rfl ?_ ?_ ?_ ?_ ?_ ?_ ht, ht⟩
    · show upd s.ts i { s.ts i with pc := (s.ts i).pc + 1 } = _
      rw [hts, e]; rfl
    · intro _; show upd s.locks 0 ((i : Int)) 0 = _; exact upd_same _ _ _
    · intro h; exact absurd (.inl (by omega)) h
    · rw [e]; rfl
    · rw [e]; exact (List.append_nil _).symm
    · rw [e]; exact (Int.add_zero _).symm
  · have ha : (s.ts i).act = ⟨6, 1, 0, 1⟩ := by rw [hts]; rfl
    rw [step_put ha]
    have hl : s.locks 0 = i := hlA.1 (.inl rfl)
    have ht : (((mark s i).setQueue (1 : Int).toNat (s.queues (1 : Int).toNat ++ [1])).go i).trace.length = s.trace.length + 1 := trace_len s i
    refine ⟨H.on hi (by omega) (by omega) (.inl (.inl e)) rfl rfl ?_ ?_ ?_ ?_ ?_ ?_ ht, ht⟩
    · show upd s.ts i { s.ts i with pc := (s.ts i).pc + 1 } = _
      rw [hts, e]; rfl
    · intro _; exact hl
    · intro h; exact absurd (.inr (.inl (by omega))) h
    · rw [e]
      show (upd s.queues 1 (s.queues 1 ++ [1]) 1).length = _
      rw [upd_same, List.length_append]; rfl
    · rw [e]; exact (List.append_nil _).symm
    · rw [e]; exact (Int.add_zero _).symm
  · have ha : (s.ts i).act = ⟨3, 2, 0, 0⟩ := by rw [hts]; rfl
    have hl : s.locks 0 = i := hlA.1 (.inr (.inl rfl))
    rw [step_wait ha (by rw [hts]; rfl) hl]
    have ht : ((((mark s i).setLock (0 : Int).toNat (-1)).setT i { s.ts i with wait := 1 }).setCond (2 : Int).toNat (s.conds (2 : Int).toNat ++ [i])).trace.length = s.trace.length + 1 := trace_len s i
    refine ⟨H.on hi (by omega) (by omega) (.inl (.inr (.inl e))) rfl rfl ?_ ?_ ?_ ?_ ?_ ?_ ht, ht⟩
    · show upd s.ts i { s.ts i with wait := 1 } = _
      rw [hts, e]; rfl
    · intro h; rw [e] at h; unfold hold at h; omega
    · intro _; show upd s.locks 0 (-1) 0 = _; exact upd_same _ _ _
    · rw [e]; rfl
    · rw [e]; show upd s.conds 2 (s.conds 2 ++ [i]) 2 = _; exact upd_same _ _ _
    · rw [e]; exact (Int.add_zero _).symm
  · exfalso
    have ha : (s.ts i).act = ⟨3, 2, 0, 0⟩ := by rw [hts]; rfl
    unfold how at hh
    rw [if_neg (by rw [hts]; simp), if_neg (by rw [hts]; decide), ha, if_neg (by rw [hts]; simp [waitOf]), if_pos ⟨rfl, by rw [hts]; rfl⟩] at hh
    omega
  · have ha : (s.ts i).act = ⟨3, 2, 0, 0⟩ := by rw [hts]; rfl
    have hl : s.locks 0 = -1 := by
      by_cases h0 : 0 ≤ s.locks 0
      · unfold how at hh
        rw [if_neg (by rw [hts]; simp), if_neg (by rw [hts]; decide), ha, if_pos (.inr ⟨rfl, by rw [hts]; rfl, h0⟩)] at hh
        omega
      · omega
    rw [step_woken ha (by rw [hts]; rfl)]
    have ht : ((((mark s i).setT i { s.ts i with wait := 0 }).setLock (0 : Int).toNat i).go i).trace.length = s.trace.length + 1 := trace_len s i
    refine ⟨H.on hi (by omega) (by omega) (.inr hl) rfl rfl ?_ ?_ ?_ ?_ ?_ ?_ ht, ht⟩
    · show upd (upd s.ts i { s.ts i with wait := 0 }) i { (upd s.ts i { s.ts i with wait := 0 }) i with pc := ((upd s.ts i { s.ts i with wait := 0 }) i).pc + 1 } = _
      rw [upd_same, hts, e]
      funext j
      by_cases ej : j = i
      · subst ej; rw [upd_same, upd_same]; rfl
      · rw [upd_ne _ _ _ _ ej, upd_ne _ _ _ _ ej, upd_ne _ _ _ _ ej]
    · intro _; show upd s.locks 0 ((i : Int)) 0 = _; exact upd_same _ _ _
    · intro h; exact absurd (.inr (.inr (.inl (by omega)))) h
    · rw [e]; rfl
    · rw [e]; exact (List.append_nil _).symm
    · rw [e]; exact (Int.add_zero _).symm
  · have ha : (s.ts i).act = ⟨8, 3, 0, 1⟩ := by rw [hts]; rfl
    have hl : s.locks 0 = i := hlA.1 (.inr (.inr (.inl rfl)))
    rw [step_add ha]
    have ht : (((mark s i).setReg (3 : Int).toNat (wrap64 (s.regs (3 : Int).toNat + 1))).go i).trace.length = s.trace.length + 1 := trace_len s i
    refine ⟨H.on hi (by omega) (by omega) (.inl (.inr (.inr (.inl e)))) rfl rfl ?_ ?_ ?_ ?_ ?_ ?_ ht, ht⟩
    · show upd s.ts i { s.ts i with pc := (s.ts i).pc + 1 } = _
      rw [hts, e]; rfl
    · intro _; exact hl
    · intro h; exact absurd (.inr (.inr (.inr (by omega)))) h
    · rw [e]; rfl
    · rw [e]; exact (List.append_nil _).symm
    · rw [e]
      show upd s.regs 3 (wrap64 (s.regs 3 + 1)) 3 = s.regs 3 + 1
      have h3 := H.r3
      have hc := cnt_le 6 n ph
      have hk := H.kle
      rw [upd_same, h3]
      unfold wrap64; omega
  · have ha : (s.ts i).act = ⟨2, 0, 0, 0⟩ := by rw [hts]; rfl
    have hl : s.locks 0 = i := hlA.1 (.inr (.inr (.inr rfl)))
    rw [step_unlock ha hl]
    have ht : (((mark s i).setLock (0 : Int).toNat (-1)).go i).trace.length = s.trace.length + 1 := trace_len s i
    refine ⟨H.on hi (by omega) (by omega) (.inl (.inr (.inr (.inr e)))) rfl rfl ?_ ?_ ?_ ?_ ?_ ?_ ht, ht⟩
    · show upd s.ts i { s.ts i with pc := (s.ts i).pc + 1 } = _
      rw [hts, e]; rfl
    · intro h; rw [e] at h; unfold hold at h; omega
    · intro _; show upd s.locks 0 (-1) 0 = _; exact upd_same _ _ _
    · rw [e]; rfl
    · rw [e]; exact (List.append_nil _).symm
    · rw [e]; exact (Int.add_zero _).symm
  · exfalso
    unfold how at hh
    rw [if_neg (by rw [hts]; simp), if_pos (by rw [hts]; decide)] at hh
    omega
end
end Go.Proofs.Ytompelilflckkaa
