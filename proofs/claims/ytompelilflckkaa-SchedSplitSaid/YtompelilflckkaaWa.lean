/-
  Steps in plain words: what each kind of act does; a run that keeps something ends where nobody is ready.
-/
import Derived.Test.YtompelilflckkaaSa
namespace Go.Proofs.Ytompelilflckkaa
open Go.RowKit Go.Fl

theorem rdy_mem {s : S} {i : Nat} : i ∈ ready s ↔ i < s.n ∧ how s (s.ts i) = 3 := by
  unfold ready
  rw [List.mem_filter, List.mem_range]
  simp
theorem nxt_mem {s : S} {l picks : List Nat} (h : l ≠ []) : next s l picks ∈ l := by
  have hl : 0 < l.length := List.length_pos_iff.2 h
  have hg : ∀ k, k < l.length → l.getD k 0 ∈ l := fun k hk => by
    rw [List.getD_eq_getElem?_getD, List.getElem?_eq_getElem hk]
    exact List.getElem_mem hk
  unfold next
  by_cases hk : s.trace.length < picks.length
  · rw [dif_pos hk]
    exact hg _ (Nat.mod_lt _ hl)
  · rw [dif_neg hk]
    cases hf : l.find? (fun (i : Nat) => decide (s.last < (i : Int))) with
    | none => exact hg _ hl
    | some i => exact List.mem_of_find?_eq_some hf
theorem allStop {picks : List Nat} {k : Nat} {s : S} (h : ready s = []) : all picks k s = s := by
  cases k with
  | zero => rfl
  | succ k => unfold all; rw [if_pos h]
theorem allGo {picks : List Nat} {k : Nat} {s : S} (h : ready s ≠ []) : all picks (k + 1) s = all picks k (step s (next s (ready s) picks)) := by
  conv => lhs; unfold all
  rw [if_neg h]
/-- What is kept by each step, and tells how many steps there may be, holds at the end, where nobody is ready. -/
theorem all_end {Inv : S → Prop} {B : Nat} (picks : List Nat) (hs : ∀ s i, Inv s → i < s.n → how s (s.ts i) = 3 → Inv (step s i) ∧ (step s i).trace.length = s.trace.length + 1) (hb : ∀ s, Inv s → s.trace.length ≤ B) :
    ∀ (k : Nat) (s : S), Inv s → B ≤ s.trace.length + k → Inv (all picks k s) ∧ ready (all picks k s) = []
  | 0, s, h, hk => by
    by_cases hr : ready s = []
    · exact ⟨h, hr⟩
    · obtain ⟨i, hi⟩ := List.exists_mem_of_ne_nil _ hr
      obtain ⟨h1, h2⟩ := rdy_mem.1 hi
      obtain ⟨h3, h4⟩ := hs s i h h1 h2
      have := hb _ h3
      omega
  | k + 1, s, h, hk => by
    by_cases hr : ready s = []
    · rw [allStop hr]; exact ⟨h, hr⟩
    · rw [allGo hr]
      obtain ⟨h1, h2⟩ := rdy_mem.1 (nxt_mem (picks := picks) hr)
      obtain ⟨h3, h4⟩ := hs s _ h h1 h2
      exact all_end picks hs hb k _ h3 (by omega)
section
variable {s : S} {i : Nat}
theorem step_lock {a : Int} (h : (s.ts i).act = ⟨1, a, 0, 0⟩) : step s i = ((mark s i).setLock a.toNat i).go i := by
  have e : ((mark s i).ts i).act = ⟨1, a, 0, 0⟩ := h
  have hd : doM (mark s i) i = .ok (((mark s i).setLock a.toNat i).go i) := by unfold doM; rw [e]; rfl
  unfold step; rw [hd]
theorem step_unlock {a : Int} (h : (s.ts i).act = ⟨2, a, 0, 0⟩) (hl : s.locks a.toNat = i) : step s i = ((mark s i).setLock a.toNat (-1)).go i := by
  have e : ((mark s i).ts i).act = ⟨2, a, 0, 0⟩ := h
  have hl2 : (mark s i).locks a.toNat = i := hl
  have hd : doM (mark s i) i = .ok (((mark s i).setLock a.toNat (-1)).go i) := by
    unfold doM; rw [e]; dsimp only
    rw [if_neg (by omega), if_pos rfl, if_pos hl2]
  unfold step; rw [hd]
theorem step_wait {a b : Int} (h : (s.ts i).act = ⟨3, a, b, 0⟩) (hw : (s.ts i).wait = 0) (hl : s.locks b.toNat = i) : step s i = (((mark s i).setLock b.toNat (-1)).setT i { s.ts i with wait := 1 }).setCond a.toNat (s.conds a.toNat ++ [i]) := by
  have e : ((mark s i).ts i).act = ⟨3, a, b, 0⟩ := h
  have hl2 : (mark s i).locks b.toNat = i := hl
  have hw2 : ((mark s i).ts i).wait = 0 := hw
  have hd : doM (mark s i) i = .ok ((((mark s i).setLock b.toNat (-1)).setT i { s.ts i with wait := 1 }).setCond a.toNat (s.conds a.toNat ++ [i])) := by
    unfold doM; rw [e]; dsimp only
    rw [if_neg (by omega), if_neg (by omega), if_pos rfl, if_pos hw2, if_pos hl2]
    rfl
  unfold step; rw [hd]
theorem step_woken {a b : Int} (h : (s.ts i).act = ⟨3, a, b, 0⟩) (hw : (s.ts i).wait = 2) : step s i = (((mark s i).setT i { s.ts i with wait := 0 }).setLock b.toNat i).go i := by
  have e : ((mark s i).ts i).act = ⟨3, a, b, 0⟩ := h
  have hw2 : ((mark s i).ts i).wait = 2 := hw
  have hd : doM (mark s i) i = .ok ((((mark s i).setT i { s.ts i with wait := 0 }).setLock b.toNat i).go i) := by
    unfold doM; rw [e]; dsimp only
    rw [if_neg (by omega), if_neg (by omega), if_pos rfl, if_neg (by omega)]
    rfl
  unfold step; rw [hd]
theorem step_signal {a : Int} (h : (s.ts i).act = ⟨4, a, 0, 0⟩) : step s i = ((mark s i).wake a.toNat (min 1 (s.conds a.toNat).length)).go i := by
  have e : ((mark s i).ts i).act = ⟨4, a, 0, 0⟩ := h
  have hd : doM (mark s i) i = .ok (((mark s i).wake a.toNat (min 1 (s.conds a.toNat).length)).go i) := by unfold doM; rw [e]; rfl
  unfold step; rw [hd]
theorem step_cast {a : Int} (h : (s.ts i).act = ⟨5, a, 0, 0⟩) : step s i = ((mark s i).wake a.toNat (s.conds a.toNat).length).go i := by
  have e : ((mark s i).ts i).act = ⟨5, a, 0, 0⟩ := h
  have hd : doM (mark s i) i = .ok (((mark s i).wake a.toNat (s.conds a.toNat).length).go i) := by unfold doM; rw [e]; rfl
  unfold step; rw [hd]
theorem step_put {a n : Int} (h : (s.ts i).act = ⟨6, a, 0, n⟩) : step s i = ((mark s i).setQueue a.toNat (s.queues a.toNat ++ [n])).go i := by
  have e : ((mark s i).ts i).act = ⟨6, a, 0, n⟩ := h
  have hd : doM (mark s i) i = .ok (((mark s i).setQueue a.toNat (s.queues a.toNat ++ [n])).go i) := by unfold doM; rw [e]; rfl
  unfold step; rw [hd]
theorem step_take {a b : Int} (h : (s.ts i).act = ⟨7, a, b, 0⟩) : step s i = (((mark s i).setReg b.toNat ((s.queues a.toNat).getD 0 0)).setQueue a.toNat ((s.queues a.toNat).drop 1)).go i := by
  have e : ((mark s i).ts i).act = ⟨7, a, b, 0⟩ := h
  have hd : doM (mark s i) i = .ok ((((mark s i).setReg b.toNat ((s.queues a.toNat).getD 0 0)).setQueue a.toNat ((s.queues a.toNat).drop 1)).go i) := by unfold doM; rw [e]; rfl
  unfold step; rw [hd]
theorem step_add {a n : Int} (h : (s.ts i).act = ⟨8, a, 0, n⟩) : step s i = ((mark s i).setReg a.toNat (wrap64 (s.regs a.toNat + n))).go i := by
  have e : ((mark s i).ts i).act = ⟨8, a, 0, n⟩ := h
  have hd : doM (mark s i) i = .ok (((mark s i).setReg a.toNat (wrap64 (s.regs a.toNat + n))).go i) := by unfold doM; rw [e]; rfl
  unfold step; rw [hd]
theorem step_copy {a b : Int} (h : (s.ts i).act = ⟨9, a, b, 0⟩) : step s i = ((mark s i).setReg b.toNat (s.regs a.toNat)).go i := by
  have e : ((mark s i).ts i).act = ⟨9, a, b, 0⟩ := h
  have hd : doM (mark s i) i = .ok (((mark s i).setReg b.toNat (s.regs a.toNat)).go i) := by unfold doM; rw [e]; rfl
  unfold step; rw [hd]
theorem step_yield (h : (s.ts i).act = ⟨11, 0, 0, 0⟩) : step s i = (mark s i).go i := by
  have e : ((mark s i).ts i).act = ⟨11, 0, 0, 0⟩ := h
  have hd : doM (mark s i) i = .ok ((mark s i).go i) := by unfold doM; rw [e]; rfl
  unfold step; rw [hd]
end
theorem go_at (s : S) (i : Nat) : (s.go i).ts i = { s.ts i with pc := (s.ts i).pc + 1 } := upd_same _ _ _
theorem go_to {s : S} {i pc : Nat} {acts : List A} {g w : Int} {d : Bool} {num : Int} (h : s.ts i = ⟨acts, pc, g, w, d, num⟩) : (s.go i).ts i = ⟨acts, pc + 1, g, w, d, num⟩ := by rw [go_at, h]
theorem go_ne (s : S) {i j : Nat} (h : j ≠ i) : (s.go i).ts j = s.ts j := upd_ne _ _ _ _ h
end Go.Proofs.Ytompelilflckkaa
