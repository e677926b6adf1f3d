/-
  SchedConds in plain words: the waker's steps; the end.
-/
import Derived.Test.YtompelilflckkaaWe
namespace Go.Proofs.Ytompelilflckkaa
open Go.RowKit Go.Fl

section
variable {cast : Bool} {n k : Nat} {ph : Nat → Nat} {s : S}
theorem CI.len_tw (H : CI cast n ph k s) : (s.ts n).acts.length = n + cS cast n + 2 := by rw [H.tw]; exact cWake_len cast n
/-- All stand in line when the waker has all. -/
theorem CI.allWait (H : CI cast n ph n s) (hl : s.locks 0 = -1) : ∀ i, i < n → ph i = 3 := by
  have hq := H.q
  rw [Nat.min_self] at hq
  have hc := cnt_le 2 n ph
  have h2 := cnt_full (t := 2) (n := n) (f := ph) (by omega)
  intro i hi
  have h1 := h2 i hi
  have h3 := H.p1 (Nat.le_refl _) i hi
  by_cases e : ph i = 2
  · have := (H.lkA i hi).1 (.inr (.inl e)); omega
  · omega
/-- The waker wakes the first m. -/
theorem CI.wakes (H : CI cast n ph k s) (h1 : n + 1 ≤ k) (h2 : k ≤ n + cS cast n) (m : Nat) (hm : if cast = true then (s.conds 2).length ≤ m else m = min 1 (s.conds 2).length) : CI cast n (fun j => if j ∈ (s.conds 2).take m then 4 else ph j) (k + 1) (((mark s n).wake 2 m).go n) ∧ (((mark s n).wake 2 m).go n).trace.length = s.trace.length + 1 := by
  obtain ⟨w1, w2, w3, w4⟩ := wakeAll_rest (mark s n) ((s.conds 2).take m)
  have wt := wakeAll_ts (mark s n) ((s.conds 2).take m)
  have wtr := wakeAll_trace (mark s n) ((s.conds 2).take m)
  have wn := wakeAll_n (mark s n) ((s.conds 2).take m)
  have hnd := H.nd
  have htd : ∀ j, j ∈ s.conds 2 ↔ j ∈ (s.conds 2).take m ∨ j ∈ (s.conds 2).drop m := fun j => by
    rw [← List.mem_append, List.take_append_drop]
  have hdis : ∀ j, j ∈ (s.conds 2).take m → j ∉ (s.conds 2).drop m := fun j ha hb => by
    rw [← List.take_append_drop m (s.conds 2), List.nodup_append] at hnd
    exact hnd.2.2 j ha j hb rfl
  have hnt : ∀ j, j ∈ (s.conds 2).take m → j < n ∧ ph j = 3 := fun j hj => (H.mem j).1 ((htd j).2 (.inl hj))
  have hl : s.locks 0 = n := H.lkW.1 (by omega)
  have ht : (((mark s n).wake 2 m).go n).trace.length = s.trace.length + 1 := by
    show ((mark s n).wakeAll ((s.conds 2).take m)).trace.length = _
    rw [wtr]; exact trace_len s n
  have hge : ∀ j, j < n → ph j ≤ (if j ∈ (s.conds 2).take m then 4 else ph j) ∧ (3 ≤ ph j → 3 ≤ (if j ∈ (s.conds 2).take m then 4 else ph j)) := fun j hj => by
    split
    · rename_i e; have := hnt j e; omega
    · exact ⟨Nat.le_refl _, fun h => h⟩
  have hnn : ∀ j, j < n → j ≠ n := fun j hj => by omega
  have hts : ∀ j, j ≠ n → (((mark s n).wake 2 m).go n).ts j = ((mark s n).wakeAll ((s.conds 2).take m)).ts j := fun j hj => go_ne _ hj
  have hcd : (((mark s n).wake 2 m).go n).conds 2 = (s.conds 2).drop m := by
    show upd ((mark s n).wakeAll ((s.conds 2).take m)).conds 2 ((s.conds 2).drop m) 2 = _
    exact upd_same _ _ _
  refine ⟨⟨wn.trans H.sn, w1.trans H.rm, fun j hj => ?_, ?_, fun j hj => ?_, ⟨fun h => ?_, fun h => by omega⟩, ?_, ?_, fun j => ?_, ?_, fun h => by omega, fun h => by omega, fun _ j hj => ?_, fun j hj => ?_, fun _ => ?_, ?_, by omega, ?_⟩, ht⟩
  · rw [hts j (hnn j hj), wt]
    show (if j ∈ (s.conds 2).take m then { s.ts j with wait := 2 } else s.ts j) = _
    by_cases e : j ∈ (s.conds 2).take m
    · rw [if_pos e, if_pos e, H.ts j hj, (hnt j e).2]; rfl
    · rw [if_neg e, if_neg e]; exact H.ts j hj
  · refine go_to (s := (mark s n).wake 2 m) ?_
    show ((mark s n).wakeAll ((s.conds 2).take m)).ts n = _
    rw [wt, if_neg (fun e => by have := hnt n e; omega)]
    exact H.tw
  · show hold (if j ∈ (s.conds 2).take m then 4 else ph j) ↔ ((mark s n).wakeAll ((s.conds 2).take m)).locks 0 = j
    rw [w2]
    show _ ↔ s.locks 0 = j
    by_cases e : j ∈ (s.conds 2).take m
    · rw [if_pos e]; exact ⟨fun h => by unfold hold at h; omega, fun h => by omega⟩
    · rw [if_neg e]; exact H.lkA j hj
  · show ((mark s n).wakeAll ((s.conds 2).take m)).locks 0 = n
    rw [w2]; exact hl
  · right
    refine ⟨n, Nat.le_refl _, ?_⟩
    show ((mark s n).wakeAll ((s.conds 2).take m)).locks 0 = n
    rw [w2]; exact hl
  · show (((mark s n).wakeAll ((s.conds 2).take m)).queues 1).length + min (k + 1) n = _
    rw [w3]
    have := H.q
    rw [show min (k + 1) n = min k n by omega]
    refine this.trans (cnt_congr fun j hj => ?_)
    have h3 := H.p2 h1 j hj
    have := (hge j hj).2 h3
    omega
  · rw [hcd]
    constructor
    · intro hj
      have h3 := (H.mem j).1 ((htd j).2 (.inr hj))
      exact ⟨h3.1, by rw [if_neg (fun e => hdis j e hj)]; exact h3.2⟩
    · rintro ⟨hj, h3⟩
      by_cases e : j ∈ (s.conds 2).take m
      · rw [if_pos e] at h3; omega
      · rw [if_neg e] at h3
        rcases (htd j).1 ((H.mem j).2 ⟨hj, h3⟩) with h | h
        · exact absurd h e
        · exact h
  · rw [hcd]
    exact hnd.sublist (List.drop_sublist _ _)
  · exact (hge j hj).2 (H.p2 h1 j hj)
  · have := H.p7 j hj
    show (if j ∈ (s.conds 2).take m then 4 else ph j) ≤ 7
    split <;> omega
  · rw [hcd]
    have hsg := H.sg h1
    cases cast
    · simp only [Bool.false_eq_true, if_false] at hm hsg ⊢
      rw [List.length_drop, hm]
      omega
    · simp only [if_true] at hm ⊢
      intro _
      exact List.drop_eq_nil_of_le hm
  · show ((mark s n).wakeAll ((s.conds 2).take m)).regs 3 = _
    rw [w4]
    refine H.r3.trans ?_
    rw [cnt_congr (t := 6) (n := n) (f := ph) (g := fun j => if j ∈ (s.conds 2).take m then 4 else ph j) (fun j hj => ?_)]
    by_cases e : j ∈ (s.conds 2).take m
    · have := hnt j e; simp only [if_pos e]; omega
    · simp only [if_neg e]
  · have h3 := H.tr
    have h4 := totL_mono (n := n) (f := ph) (g := fun j => if j ∈ (s.conds 2).take m then 4 else ph j) (fun j hj => (hge j hj).1)
    rw [ht]; omega
theorem CI.waker (H : CI cast n ph k s) (hh : how s (s.ts n) = 3) : (∃ ph', CI cast n ph' (k + 1) (step s n)) ∧ (step s n).trace.length = s.trace.length + 1 := by
  have htw := H.tw
  have hlen := H.len_tw
  have hpc : k < n + cS cast n + 2 := by
    by_cases e : k < n + cS cast n + 2
    · exact e
    · unfold how at hh
      rw [if_neg (by rw [htw]; simp), if_pos (by rw [hlen, htw]; show _ ≤ k; omega)] at hh
      omega
  have hnp : ¬ (s.ts n).acts.length ≤ (s.ts n).pc := by rw [hlen, htw]; show ¬ _ ≤ k; omega
  have hnd : ¬ (s.ts n).died = true := by rw [htw]; simp
  have hS : 1 ≤ cS cast n ∨ n = 0 := by unfold cS; split <;> omega
  by_cases hk : k < n
  · have ha : (s.ts n).act = ⟨7, 1, 0, 0⟩ := by rw [htw]; exact cWake_take hk
    have hq : (s.queues 1).length ≠ 0 := fun e => by
      have e := List.length_eq_zero_iff.1 e
      unfold how at hh
      rw [if_neg hnd, if_neg hnp, ha] at hh
      dsimp only at hh
      rw [if_neg (by omega), if_neg (by omega), if_neg (by omega), if_pos ⟨rfl, e⟩] at hh
      omega
    rw [step_take ha]
    have ht : ((((mark s n).setReg (0 : Int).toNat ((s.queues (1 : Int).toNat).getD 0 0)).setQueue (1 : Int).toNat ((s.queues (1 : Int).toNat).drop 1)).go n).trace.length = s.trace.length + 1 := trace_len s n
    refine ⟨⟨ph, H.sn, H.rm, fun j hj => (go_ne _ (by omega)).trans (H.ts j hj), go_to (s := ((mark s n).setReg (0 : Int).toNat ((s.queues (1 : Int).toNat).getD 0 0)).setQueue (1 : Int).toNat ((s.queues (1 : Int).toNat).drop 1)) htw, H.lkA, ⟨fun h => by omega, fun h => by have := H.lkW.2 h; omega⟩, H.lkF, ?_, H.mem, H.nd, fun _ => H.ln (by omega), fun _ => H.p1 (by omega), fun h => by omega, H.p7, fun h => by omega, ?_, by omega, ?_⟩, ht⟩
    · show (upd s.queues 1 ((s.queues 1).drop 1) 1).length + _ = _
      rw [upd_same, List.length_drop, ← H.q]; omega
    · show upd s.regs 0 ((s.queues 1).getD 0 0) 3 = _
      exact (upd_ne _ _ _ _ (by omega)).trans H.r3
    · rw [ht]; have := H.tr; omega
  by_cases hk2 : k = n
  · subst hk2
    have ha : (s.ts k).act = ⟨1, 0, 0, 0⟩ := by rw [htw]; exact cWake_lock cast k
    have hl : s.locks 0 = -1 := by
      have hF := H.lkF
      by_cases h0 : 0 ≤ s.locks 0
      · unfold how at hh
        rw [if_neg hnd, if_neg hnp, ha, if_pos (.inl ⟨rfl, h0⟩)] at hh
        omega
      · omega
    have hall := H.allWait hl
    rw [step_lock ha]
    have ht : (((mark s k).setLock (0 : Int).toNat k).go k).trace.length = s.trace.length + 1 := trace_len s k
    refine ⟨⟨ph, H.sn, H.rm, fun j hj => (go_ne _ (by omega)).trans (H.ts j hj), go_to (s := (mark s k).setLock (0 : Int).toNat k) htw, fun j hj => ⟨fun h => ?_, fun h => ?_⟩, ⟨fun _ => ?_, fun _ => ?_⟩, ?_, ?_, H.mem, H.nd, fun h => by omega, fun h => by omega, fun _ j hj => by rw [hall j hj]; omega, H.p7, fun _ => ?_, H.r3, by omega, ?_⟩, ht⟩
    · rw [hall j hj] at h; unfold hold at h; omega
    · have h : upd s.locks 0 (k : Int) 0 = j := h
      rw [upd_same] at h; omega
    · show upd s.locks 0 (k : Int) 0 = k
      exact upd_same _ _ _
    · omega
    · right
      exact ⟨k, Nat.le_refl _, by show upd s.locks 0 (k : Int) 0 = k; exact upd_same _ _ _⟩
    · show (s.queues 1).length + min (k + 1) k = _
      rw [← H.q]; omega
    · have h1 := H.ln (Nat.le_refl _)
      have h2 := cnt_le 3 k ph
      cases cast
      · show (s.conds 2).length ≤ 2 * k + 1 - (k + 1); omega
      · show k + 2 ≤ k + 1 → _; omega
    · rw [ht]; have := H.tr; omega
  by_cases hk3 : k ≤ n + cS cast n
  · have ha : (s.ts n).act = ⟨if cast = true then 5 else 4, 2, 0, 0⟩ := by rw [htw]; exact cWake_sig (k := k) (by omega) hk3
    cases cast
    · rw [step_signal ha]
      have := H.wakes (by omega) hk3 (min 1 (s.conds 2).length) rfl
      exact ⟨⟨_, this.1⟩, this.2⟩
    · rw [step_cast ha]
      have := H.wakes (by omega) hk3 (s.conds 2).length (Nat.le_refl _)
      exact ⟨⟨_, this.1⟩, this.2⟩
  · have hk4 : k = n + 1 + cS cast n := by omega
    have ha : (s.ts n).act = ⟨2, 0, 0, 0⟩ := by rw [htw, hk4]; exact cWake_unlock cast n
    have hl : s.locks 0 = n := H.lkW.1 (by omega)
    rw [step_unlock ha hl]
    have ht : (((mark s n).setLock (0 : Int).toNat (-1)).go n).trace.length = s.trace.length + 1 := trace_len s n
    refine ⟨⟨ph, H.sn, H.rm, fun j hj => (go_ne _ (by omega)).trans (H.ts j hj), go_to (s := (mark s n).setLock (0 : Int).toNat (-1)) htw, fun j hj => ⟨fun h => ?_, fun h => ?_⟩, ⟨fun _ => ?_, fun h => ?_⟩, ?_, ?_, H.mem, H.nd, fun h => by omega, fun h => by omega, fun _ => H.p2 (by omega), H.p7, fun _ => ?_, H.r3, by omega, ?_⟩, ht⟩
    · have := (H.lkA j hj).1 h; omega
    · have h : upd s.locks 0 (-1) 0 = (j : Int) := h
      rw [upd_same] at h; omega
    · omega
    · have h : upd s.locks 0 (-1) 0 = (n : Int) := h
      rw [upd_same] at h; omega
    · left
      show upd s.locks 0 (-1) 0 = -1
      exact upd_same _ _ _
    · show (s.queues 1).length + min (k + 1) n = _
      rw [← H.q]; omega
    · have hsg := H.sg (by omega)
      cases cast
      · simp only [Bool.false_eq_true, if_false] at hsg ⊢
        have : (s.conds 2).length ≤ 2 * n + 1 - (k + 1) := by
          rw [show cS false n = n from rfl] at hk4
          omega
        exact this
      · simp only [if_true] at hsg ⊢
        intro _
        exact hsg (by rw [show cS true n = 1 from rfl] at hk4; omega)
    · rw [ht]; have := H.tr; omega
theorem CI.stop (H : CI cast n ph k s) (hn : n ≤ 15) (h1 : 1 ≤ n) (hr : ready s = []) : k = n + cS cast n + 2 ∧ ∀ i, i < n → ph i = 7 := by
  have hno : ∀ i, i < n + 1 → how s (s.ts i) ≠ 3 := fun i hi e => by
    have : i ∈ ready s := rdy_mem.2 ⟨by rw [H.sn]; exact hi, e⟩
    rw [hr] at this; cases this
  have hF := H.lkF
  have hkle := H.kle
  have htw := H.tw
  have hlen := H.len_tw
  have hndw : ¬ (s.ts n).died = true := by rw [htw]; simp
  have hS : 1 ≤ cS cast n := by unfold cS; split <;> omega
  -- nobody holds the lock
  have hl : s.locks 0 = -1 := by
    rcases hF with h | ⟨i, hi, h⟩
    · exact h
    · exfalso
      refine hno i (by omega) ?_
      by_cases e : i = n
      · subst e
        have hk := H.lkW.2 h
        have ha : (s.ts i).act = ⟨if cast = true then 5 else 4, 2, 0, 0⟩ ∨ (s.ts i).act = ⟨2, 0, 0, 0⟩ := by
          by_cases e : k ≤ i + cS cast i
          · left; rw [htw]; exact cWake_sig (k := k) (by omega) e
          · right; rw [htw, show k = i + 1 + cS cast i by omega]; exact cWake_unlock cast i
        have hkd : (s.ts i).act.kind = 5 ∨ (s.ts i).act.kind = 4 ∨ (s.ts i).act.kind = 2 := by
          rcases ha with ha | ha
          · rw [ha]; cases cast
            · exact .inr (.inl rfl)
            · exact .inl rfl
          · rw [ha]; exact .inr (.inr rfl)
        unfold how
        rw [if_neg hndw, if_neg (by rw [hlen, htw]; show ¬ _ ≤ k; omega), if_neg (by omega), if_neg (by omega), if_neg (by omega), if_neg (by omega)]
      · have hi : i < n := by omega
        have hh := (H.lkA i hi).2 h
        have hts := H.ts i hi
        have hnd : ¬ (s.ts i).died = true := by rw [hts]; simp
        have hql : (s.queues 1).length ≤ 15 := by have := H.q; have := cnt_le 2 n ph; omega
        have hrm := H.rm
        unfold hold at hh
        rcases hh with e | e | e | e <;> rw [e] at hts
        · have ha : (s.ts i).act = ⟨6, 1, 0, 1⟩ := by rw [hts]; rfl
          unfold how
          rw [if_neg hnd, if_neg (by rw [hts]; decide), ha]
          dsimp only
          rw [if_neg (by omega), if_neg (by omega), if_neg (by rintro ⟨_, hq⟩; have hq : s.room ≤ ((s.queues 1).length : Int) := hq; omega), if_neg (by omega)]
        · have ha : (s.ts i).act = ⟨3, 2, 0, 0⟩ := by rw [hts]; rfl
          have hw : (s.ts i).wait = 0 := by rw [hts]; rfl
          unfold how
          rw [if_neg hnd, if_neg (by rw [hts]; decide), ha, hw]
          dsimp only
          rw [if_neg (by omega), if_neg (by omega), if_neg (by omega), if_neg (by omega)]
        · have ha : (s.ts i).act = ⟨8, 3, 0, 1⟩ := by rw [hts]; rfl
          unfold how
          rw [if_neg hnd, if_neg (by rw [hts]; decide), ha]
          dsimp only
          rw [if_neg (by omega), if_neg (by omega), if_neg (by omega), if_neg (by omega)]
        · have ha : (s.ts i).act = ⟨2, 0, 0, 0⟩ := by rw [hts]; rfl
          unfold how
          rw [if_neg hnd, if_neg (by rw [hts]; decide), ha]
          dsimp only
          rw [if_neg (by omega), if_neg (by omega), if_neg (by omega), if_neg (by omega)]
  have hlz : ¬ 0 ≤ s.locks 0 := by omega
  have h37 : ∀ i, i < n → ph i = 3 ∨ ph i = 7 := fun i hi => by
    have h7 := H.p7 i hi
    have hnh : ¬ hold (ph i) := fun h => by have := (H.lkA i hi).1 h; omega
    unfold hold at hnh
    have hts := H.ts i hi
    have hnd : ¬ (s.ts i).died = true := by rw [hts]; simp
    by_cases e0 : ph i = 0
    · exfalso
      refine hno i (by omega) ?_
      rw [e0] at hts
      have ha : (s.ts i).act = ⟨1, 0, 0, 0⟩ := by rw [hts]; rfl
      unfold how
      rw [if_neg hnd, if_neg (by rw [hts]; decide), ha]
      dsimp only
      rw [if_neg (by rintro (⟨_, hq⟩ | ⟨hq, _⟩) <;> first | exact hlz hq | omega), if_neg (by omega), if_neg (by omega), if_neg (by omega)]
    · by_cases e4 : ph i = 4
      · exfalso
        refine hno i (by omega) ?_
        rw [e4] at hts
        have ha : (s.ts i).act = ⟨3, 2, 0, 0⟩ := by rw [hts]; rfl
        have hw : (s.ts i).wait = 2 := by rw [hts]; rfl
        unfold how
        rw [if_neg hnd, if_neg (by rw [hts]; decide), ha, hw]
        dsimp only
        rw [if_neg (by rintro (⟨hq, _⟩ | ⟨_, _, hq⟩) <;> first | exact hlz hq | omega), if_neg (by omega), if_neg (by omega), if_neg (by omega)]
      · omega
  have hnp : k < n + cS cast n + 2 → ¬ (s.ts n).acts.length ≤ (s.ts n).pc := fun hk => by rw [hlen, htw]; show ¬ _ ≤ k; omega
  by_cases hk : k ≤ n
  · exfalso
    have h3 : ∀ i, i < n → ph i = 3 := fun i hi => by
      have := H.p1 hk i hi
      have := h37 i hi
      omega
    refine hno n (by omega) ?_
    by_cases e : k = n
    · subst e
      have ha : (s.ts k).act = ⟨1, 0, 0, 0⟩ := by rw [htw]; exact cWake_lock cast k
      unfold how
      rw [if_neg hndw, if_neg (hnp (by omega)), ha]
      dsimp only
      rw [if_neg (by rintro (⟨_, hq⟩ | ⟨hq, _⟩) <;> first | exact hlz hq | omega), if_neg (by omega), if_neg (by omega), if_neg (by omega)]
    · have ha : (s.ts n).act = ⟨7, 1, 0, 0⟩ := by rw [htw]; exact cWake_take (k := k) (by omega)
      have hc := cnt_all (t := 2) (n := n) (f := ph) (fun i hi => by rw [h3 i hi]; omega)
      have hq := H.q
      have hq0 : s.queues 1 ≠ [] := fun e => by rw [e] at hq; simp at hq; omega
      unfold how
      rw [if_neg hndw, if_neg (hnp (by omega)), ha]
      dsimp only
      rw [if_neg (by omega), if_neg (by omega), if_neg (by omega), if_neg (fun h => hq0 h.2)]
  · have hk2 : k = n + cS cast n + 2 := by
      by_cases e : k ≤ n + 1 + cS cast n
      · have := H.lkW.1 ⟨by omega, e⟩; omega
      · omega
    refine ⟨hk2, fun i hi => ?_⟩
    rcases h37 i hi with e | e
    · exfalso
      have hm := (H.mem i).2 ⟨hi, e⟩
      have hsg := H.sg (by omega)
      cases cast
      · simp only [Bool.false_eq_true, if_false] at hsg
        rw [hk2, show cS false n = n from rfl] at hsg
        have : s.conds 2 = [] := List.length_eq_zero_iff.1 (by omega)
        rw [this] at hm; cases hm
      · simp only [if_true] at hsg
        rw [hsg (by rw [hk2]; omega)] at hm
        cases hm
    · exact e
end
theorem cTasks_len (cast : Bool) (n : Nat) : (cTasks cast n).length = n + 1 := by simp [cTasks]
theorem conds_end (cast : Bool) {n : Nat} (h1 : 1 ≤ n) (h2 : n ≤ 15) (picks : List Nat) : ∃ s, all picks 65536 (begin_ (cTasks cast n) 16) = s ∧ s.n = n + 1 ∧ (∀ i, i < n + 1 → how s (s.ts i) = 1) ∧ s.regs 3 = (n : Int) := by
  have hz : ∀ t m, 1 ≤ t → cnt t m (fun _ => 0) = 0 := fun t m ht => by
    induction m with
    | zero => rfl
    | succ m ih => simp only [cnt, ih]; rw [if_neg (by omega)]
  have h0 : CI cast n (fun _ => 0) 0 (begin_ (cTasks cast n) 16) := by
    refine ⟨cTasks_len cast n, rfl, fun i hi => ?_, ?_, fun i hi => ⟨fun h => by unfold hold at h; omega, fun h => ?_⟩, ⟨fun h => by omega, fun h => ?_⟩, .inl rfl, ?_, fun i => ⟨fun h => absurd h (by simp [begin_]), fun h => by omega⟩, List.nodup_nil, fun _ => Nat.zero_le _, fun _ _ _ => Nat.zero_le _, fun h => by omega, fun _ _ => Nat.zero_le _, fun h => by omega, ?_, by omega, Nat.zero_le _⟩
    · show T.mk ((cTasks cast n).getD i []) 0 (-1) 0 false 0 = _
      rw [List.getD_eq_getElem?_getD]
      unfold cTasks
      rw [List.getElem?_append_left (by simp; omega), List.getElem?_replicate, if_pos hi]; rfl
    · show T.mk ((cTasks cast n).getD n []) 0 (-1) 0 false 0 = _
      rw [List.getD_eq_getElem?_getD]
      unfold cTasks
      rw [List.getElem?_append_right (by simp)]
      simp
    · have h : (-1 : Int) = i := h
      omega
    · have h : (-1 : Int) = n := h
      omega
    · rw [hz 2 n (by omega)]
      show 0 + min 0 n = 0
      omega
    · rw [hz 6 n (by omega)]; rfl
  obtain ⟨⟨ph, k, H⟩, hr⟩ := all_end (Inv := fun s => ∃ ph k, CI cast n ph k s) (B := 200) picks (fun s i ⟨ph, k, H⟩ hi hh => by
    rw [H.sn] at hi
    by_cases e : i = n
    · subst e
      obtain ⟨⟨ph', h⟩, h3⟩ := H.waker hh
      exact ⟨⟨ph', k + 1, h⟩, h3⟩
    · have := H.waiter h2 (by omega) hh
      exact ⟨⟨_, _, this.1⟩, this.2⟩) (fun s ⟨ph, k, H⟩ => by
    have h3 := totL_le H.p7
    have h4 := H.tr
    have h5 := H.kle
    have h6 : cS cast n ≤ 15 := by unfold cS; split <;> omega
    omega) 65536 _ ⟨_, _, h0⟩ (by omega)
  refine ⟨_, rfl, H.sn, ?_⟩
  generalize all picks 65536 (begin_ (cTasks cast n) 16) = s at H hr ⊢
  obtain ⟨hk, hp⟩ := H.stop h2 h1 hr
  refine ⟨fun i hi => ?_, ?_⟩
  · by_cases e : i = n
    · subst e
      unfold how
      rw [if_neg (by rw [H.tw]; simp), if_pos (by rw [H.len_tw, H.tw]; show _ ≤ k; omega)]
    · have hts := H.ts i (by omega)
      rw [hp i (by omega)] at hts
      unfold how
      rw [if_neg (by rw [hts]; simp), if_pos (by rw [hts]; decide)]
  · rw [H.r3, cnt_all (fun i hi => by rw [hp i hi]; omega)]
end Go.Proofs.Ytompelilflckkaa
