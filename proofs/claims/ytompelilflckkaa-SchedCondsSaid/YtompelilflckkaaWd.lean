/-
  SchedConds in plain words: all that wait go on: what is kept.
-/
import Derived.Test.YtompelilflckkaaWc
namespace Go.Proofs.Ytompelilflckkaa
open Go.RowKit Go.Fl

def cWait : List A := [⟨1, 0, 0, 0⟩, ⟨6, 1, 0, 1⟩, ⟨3, 2, 0, 0⟩, ⟨8, 3, 0, 1⟩, ⟨2, 0, 0, 0⟩]
def cTakes (k : Nat) : List A := List.replicate k ⟨7, 1, 0, 0⟩
def cSigs (cast : Bool) (k : Nat) : List A := List.replicate k ⟨if cast = true then 5 else 4, 2, 0, 0⟩
def cS (cast : Bool) (n : Nat) : Nat := if cast = true then 1 else n
def cWake (cast : Bool) (n : Nat) : List A := cTakes n ++ [⟨1, 0, 0, 0⟩] ++ cSigs cast (cS cast n) ++ [⟨2, 0, 0, 0⟩]
def cTasks (cast : Bool) (n : Nat) : List (List A) := List.replicate n cWait ++ [cWake cast n]
theorem cWake_len (cast : Bool) (n : Nat) : (cWake cast n).length = n + cS cast n + 2 := by
  simp [cWake, cTakes, cSigs]; omega
theorem cWake_take {cast : Bool} {n k : Nat} (h : k < n) : (cWake cast n).getD k A.none = ⟨7, 1, 0, 0⟩ := by
  rw [List.getD_eq_getElem?_getD]
  unfold cWake
  rw [List.getElem?_append_left (by simp [cTakes, cSigs]; omega), List.getElem?_append_left (by simp [cTakes, cSigs]; omega), List.getElem?_append_left (by simp [cTakes]; omega)]
  unfold cTakes
  rw [List.getElem?_replicate, if_pos h]; rfl
theorem cWake_lock (cast : Bool) (n : Nat) : (cWake cast n).getD n A.none = ⟨1, 0, 0, 0⟩ := by
  rw [List.getD_eq_getElem?_getD]
  unfold cWake
  rw [List.getElem?_append_left (by simp [cTakes, cSigs]), List.getElem?_append_left (by simp [cTakes, cSigs]), List.getElem?_append_right (by simp [cTakes])]
  simp [cTakes]
theorem cWake_sig {cast : Bool} {n k : Nat} (h1 : n + 1 ≤ k) (h2 : k ≤ n + cS cast n) : (cWake cast n).getD k A.none = ⟨if cast = true then 5 else 4, 2, 0, 0⟩ := by
  rw [List.getD_eq_getElem?_getD]
  unfold cWake
  rw [List.getElem?_append_left (by simp [cTakes, cSigs]; omega), List.getElem?_append_right (by simp [cTakes]; omega)]
  unfold cSigs
  rw [List.getElem?_replicate, if_pos (by simp [cTakes]; omega)]; rfl
theorem cWake_unlock (cast : Bool) (n : Nat) : (cWake cast n).getD (n + 1 + cS cast n) A.none = ⟨2, 0, 0, 0⟩ := by
  rw [List.getD_eq_getElem?_getD]
  unfold cWake
  rw [List.getElem?_append_right (by simp [cTakes, cSigs]; omega)]
  rw [show n + 1 + cS cast n - (cTakes n ++ [(⟨1, 0, 0, 0⟩ : A)] ++ cSigs cast (cS cast n)).length = 0 by simp [cTakes, cSigs]; omega]
  rfl
def hold (p : Nat) : Prop := p = 1 ∨ p = 2 ∨ p = 5 ∨ p = 6
def pcOf : Nat → Nat
  | 0 => 0 | 1 => 1 | 2 => 2 | 3 => 2 | 4 => 2 | 5 => 3 | 6 => 4 | _ => 5
def waitOf : Nat → Int
  | 3 => 1 | 4 => 2 | _ => 0
def cnt (t : Nat) : Nat → (Nat → Nat) → Nat
  | 0, _ => 0
  | n + 1, f => cnt t n f + if t ≤ f n then 1 else 0
theorem cnt_le (t n : Nat) (f : Nat → Nat) : cnt t n f ≤ n := by
  induction n with
  | zero => exact Nat.le_refl _
  | succ n ih => simp only [cnt]; split <;> omega
theorem cnt_congr {t n : Nat} {f g : Nat → Nat} (h : ∀ i, i < n → (t ≤ f i ↔ t ≤ g i)) : cnt t n f = cnt t n g := by
  induction n with
  | zero => rfl
  | succ n ih =>
    simp only [cnt]
    rw [ih (fun i hi => h i (by omega))]
    have := h n (by omega)
    by_cases e : t ≤ f n
    · rw [if_pos e, if_pos (this.1 e)]
    · rw [if_neg e, if_neg (fun k => e (this.2 k))]
theorem cnt_upd (t : Nat) {n i : Nat} (f : Nat → Nat) (h : i < n) : cnt t n (upd f i (f i + 1)) = cnt t n f + if f i + 1 = t then 1 else 0 := by
  induction n with
  | zero => omega
  | succ n ih =>
    simp only [cnt]
    by_cases e : i = n
    · subst e
      rw [cnt_congr (g := f) (fun j hj => by rw [upd_ne _ _ _ _ (by omega)]), upd_same]
      split <;> split <;> split <;> omega
    · rw [ih (by omega), upd_ne _ _ _ _ (fun k => e k.symm)]; omega
theorem cnt_full {t n : Nat} {f : Nat → Nat} (h : cnt t n f = n) : ∀ i, i < n → t ≤ f i := by
  induction n with
  | zero => intro i hi; omega
  | succ n ih =>
    simp only [cnt] at h
    have := cnt_le t n f
    intro i hi
    by_cases e : t ≤ f n
    · rw [if_pos e] at h
      by_cases ei : i = n
      · rw [ei]; exact e
      · exact ih (by omega) i (by omega)
    · rw [if_neg e] at h; omega
theorem cnt_all {t n : Nat} {f : Nat → Nat} (h : ∀ i, i < n → t ≤ f i) : cnt t n f = n := by
  induction n with
  | zero => rfl
  | succ n ih =>
    simp only [cnt]
    rw [ih (fun i hi => h i (by omega)), if_pos (h n (by omega))]
theorem totL_mono {n : Nat} {f g : Nat → Nat} (h : ∀ i, i < n → f i ≤ g i) : totL n f ≤ totL n g := by
  induction n with
  | zero => exact Nat.le_refl _
  | succ n ih =>
    have h1 := ih (fun i hi => h i (by omega))
    have h2 := h n (by omega)
    simp only [totL]; omega
/-- ph i: how far one who waits is; k: how far the waker is. -/
structure CI (cast : Bool) (n : Nat) (ph : Nat → Nat) (k : Nat) (s : S) : Prop where
  sn : s.n = n + 1
  rm : s.room = 16
  ts : ∀ i, i < n → s.ts i = ⟨cWait, pcOf (ph i), -1, waitOf (ph i), false, 0⟩
  tw : s.ts n = ⟨cWake cast n, k, -1, 0, false, 0⟩
  lkA : ∀ i, i < n → (hold (ph i) ↔ s.locks 0 = i)
  lkW : n + 1 ≤ k ∧ k ≤ n + 1 + cS cast n ↔ s.locks 0 = n
  lkF : s.locks 0 = -1 ∨ ∃ i : Nat, i ≤ n ∧ s.locks 0 = i
  q : (s.queues 1).length + min k n = cnt 2 n ph
  mem : ∀ i, i ∈ s.conds 2 ↔ i < n ∧ ph i = 3
  nd : (s.conds 2).Nodup
  ln : k ≤ n → (s.conds 2).length ≤ cnt 3 n ph
  p1 : k ≤ n → ∀ i, i < n → ph i ≤ 3
  p2 : n + 1 ≤ k → ∀ i, i < n → 3 ≤ ph i
  p7 : ∀ i, i < n → ph i ≤ 7
  sg : n + 1 ≤ k → if cast = true then (n + 2 ≤ k → s.conds 2 = []) else (s.conds 2).length ≤ 2 * n + 1 - k
  r3 : s.regs 3 = (cnt 6 n ph : Int)
  kle : k ≤ n + cS cast n + 2
  tr : s.trace.length ≤ totL n ph + k
section
variable {cast : Bool} {n k : Nat} {ph : Nat → Nat} {s : S}
theorem hold_on {p : Nat} (h7 : p ≤ 6) : hold (p + 1) ↔ p = 0 ∨ p = 1 ∨ p = 4 ∨ p = 5 := by unfold hold; omega
/-- One who waits goes on. -/
theorem CI.on (H : CI cast n ph k s) {i : Nat} (hi : i < n) (h6 : ph i ≤ 6) (h3 : ph i ≠ 3) (hlk : hold (ph i) ∨ s.locks 0 = -1) {s' : S} (en : s'.n = s.n) (er : s'.room = s.room) (et : s'.ts = upd s.ts i ⟨cWait, pcOf (ph i + 1), -1, waitOf (ph i + 1), false, 0⟩)
    (el1 : hold (ph i + 1) → s'.locks 0 = i) (el2 : ¬ hold (ph i + 1) → s'.locks 0 = -1) (eq : (s'.queues 1).length = (s.queues 1).length + if ph i + 1 = 2 then 1 else 0) (ec : s'.conds 2 = s.conds 2 ++ if ph i + 1 = 3 then [i] else [])
    (e3 : s'.regs 3 = s.regs 3 + if ph i + 1 = 6 then 1 else 0) (etr : s'.trace.length = s.trace.length + 1) : CI cast n (upd ph i (ph i + 1)) k s' := by
  have hi' : ∀ j, j < n → j ≠ i → ¬ hold (ph j) := fun j hj hne hh => by
    have h1 := (H.lkA j hj).1 hh
    rcases hlk with h | h
    · have h2 := (H.lkA i hi).1 h
      omega
    · omega
  have hw : ¬ (n + 1 ≤ k ∧ k ≤ n + 1 + cS cast n) := fun hh => by
    have h1 := H.lkW.1 hh
    rcases hlk with h | h
    · have h2 := (H.lkA i hi).1 h
      omega
    · omega
  have hl' : s'.locks 0 = -1 ∨ s'.locks 0 = i := by
    by_cases e : hold (ph i + 1)
    · exact .inr (el1 e)
    · exact .inl (el2 e)
  have hmem := H.mem
  refine ⟨en.trans H.sn, er.trans H.rm, fun j hj => ?_, ?_, fun j hj => ?_, ⟨fun h => absurd h hw, fun h => by omega⟩, ?_, ?_, fun j => ?_, ?_, fun hk => ?_, fun hk j hj => ?_, fun hk j hj => ?_, fun j hj => ?_, fun hk => ?_, ?_, H.kle, ?_⟩
  · rw [et]
    by_cases e : j = i
    · subst e; rw [upd_same, upd_same]
    · rw [upd_ne _ _ _ _ e, upd_ne _ _ _ _ e]; exact H.ts j hj
  · rw [et, upd_ne _ _ _ _ (by omega)]; exact H.tw
  · by_cases e : j = i
    · subst e
      rw [upd_same]
      exact ⟨el1, fun h => by
        by_cases e : hold (ph j + 1)
        · exact e
        · have := el2 e; omega⟩
    · rw [upd_ne _ _ _ _ e]
      exact ⟨fun h => absurd h (hi' j hj e), fun h => by omega⟩
  · rcases hl' with h | h
    · exact .inl h
    · exact .inr ⟨i, by omega, h⟩
  · rw [eq, cnt_upd 2 ph hi, ← H.q]; omega
  · rw [ec, List.mem_append]
    by_cases e : j = i
    · subst e
      rw [upd_same]
      by_cases e3 : ph j + 1 = 3
      · rw [if_pos e3]; simp [hi, e3]
      · rw [if_neg e3]
        simp [e3]
        intro hm
        exact h3 ((hmem j).1 hm).2
    · rw [upd_ne _ _ _ _ e, hmem j]
      split
      · simp [e]
      · simp
  · rw [ec]
    split
    · rw [List.nodup_append]
      refine ⟨H.nd, by simp, fun a ha b hb => ?_⟩
      obtain rfl : b = i := by simpa using hb
      rintro rfl
      exact h3 ((hmem a).1 ha).2
    · rw [List.append_nil]; exact H.nd
  · have := H.ln hk
    rw [ec, cnt_upd 3 ph hi, List.length_append]
    split
    · rename_i e; simp; omega
    · simp; omega
  · by_cases e : j = i
    · subst e; rw [upd_same]; have := H.p1 hk j hj; omega
    · rw [upd_ne _ _ _ _ e]; exact H.p1 hk j hj
  · by_cases e : j = i
    · subst e; rw [upd_same]; have := H.p2 hk j hj; omega
    · rw [upd_ne _ _ _ _ e]; exact H.p2 hk j hj
  · by_cases e : j = i
    · subst e; rw [upd_same]; omega
    · rw [upd_ne _ _ _ _ e]; exact H.p7 j hj
  · have h5 := H.p2 hk i hi
    have e0 : (if ph i + 1 = 3 then [i] else []) = [] := if_neg (by omega)
    rw [ec, e0, List.append_nil]
    exact H.sg hk
  · rw [e3, H.r3, cnt_upd 6 ph hi]
    split <;> omega
  · rw [etr, totL_upd ph hi]
    have := H.tr
    omega
end
theorem wakeAll_rest (s : S) (l : List Nat) : (s.wakeAll l).room = s.room ∧ (s.wakeAll l).locks = s.locks ∧ (s.wakeAll l).queues = s.queues ∧ (s.wakeAll l).regs = s.regs := by
  induction l generalizing s with
  | nil => exact ⟨rfl, rfl, rfl, rfl⟩
  | cons i l ih => exact ih _
theorem wakeAll_ts (s : S) (l : List Nat) (j : Nat) : (s.wakeAll l).ts j = if j ∈ l then { s.ts j with wait := 2 } else s.ts j := by
  induction l generalizing s with
  | nil => simp [S.wakeAll]
  | cons i l ih =>
    show ((s.setT i { s.ts i with wait := 2 }).wakeAll l).ts j = _
    rw [ih]
    by_cases e : j = i
    · subst e
      rw [show (s.setT j { s.ts j with wait := 2 }).ts j = { s.ts j with wait := 2 } from upd_same _ _ _]
      simp
    · rw [show (s.setT i { s.ts i with wait := 2 }).ts j = s.ts j from upd_ne _ _ _ _ e]
      simp [e]
end Go.Proofs.Ytompelilflckkaa
