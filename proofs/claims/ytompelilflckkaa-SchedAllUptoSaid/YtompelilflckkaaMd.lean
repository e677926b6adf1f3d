/-
  The scheduler in plain words: a run's state, who is ready, a step, a run of so many steps.
-/
import Derived.Test.YtompelilflckkaaMb
set_option linter.unusedSimpArgs false
set_option linter.unusedVariables false
namespace Go.Proofs.Ytompelilflckkaa
open Go.RowKit Go.Fl

/-- An act. -/
structure A where
  kind : Int
  a : Int
  b : Int
  n : Int
def A.none : A := ⟨0, 0, 0, 0⟩
/-- A task under way. -/
structure T where
  acts : List A
  pc : Nat
  guard : Int
  wait : Int
  died : Bool
  num : Int
def T.act (t : T) : A := t.acts.getD t.pc A.none
/-- A run. -/
structure S where
  n : Nat
  ts : Nat → T
  room : Int
  locks : Nat → Int
  conds : Nat → List Nat
  queues : Nat → List Int
  regs : Nat → Int
  last : Int
  trace : List (Nat × Nat)
/-- How a task stands. -/
def how (s : S) (t : T) : Int :=
  if t.died = true then 2 else if t.acts.length ≤ t.pc then 1
  else if (t.act.kind = 1 ∧ 0 ≤ s.locks t.act.a.toNat) ∨ (t.act.kind = 3 ∧ t.wait = 2 ∧ 0 ≤ s.locks t.act.b.toNat) then 4
  else if t.act.kind = 3 ∧ t.wait = 1 then 5
  else if t.act.kind = 6 ∧ s.room ≤ (s.queues t.act.a.toNat).length then 6
  else if t.act.kind = 7 ∧ s.queues t.act.a.toNat = [] then 7
  else 3
/-- Who is ready. -/
def ready (s : S) : List Nat := (List.range s.n).filter fun i => decide (how s (s.ts i) = 3)
/-- Whose turn it is. -/
def next (s : S) (l : List Nat) (picks : List Nat) : Nat :=
  if h : s.trace.length < picks.length then l.getD (picks[s.trace.length] % l.length) 0
  else match l.find? (fun (i : Nat) => decide (s.last < (i : Int))) with
    | some i => i
    | none => l.getD 0 0
/-- A task turned. -/
def S.setT (s : S) (i : Nat) (t : T) : S := { s with ts := upd s.ts i t }
/-- A task goes on. -/
def S.go (s : S) (i : Nat) : S := s.setT i { s.ts i with pc := (s.ts i).pc + 1 }
def S.setLock (s : S) (k : Nat) (v : Int) : S := { s with locks := upd s.locks k v }
def S.setCond (s : S) (k : Nat) (l : List Nat) : S := { s with conds := upd s.conds k l }
def S.setQueue (s : S) (k : Nat) (l : List Int) : S := { s with queues := upd s.queues k l }
def S.setReg (s : S) (k : Nat) (v : Int) : S := { s with regs := upd s.regs k v }
/-- Those wake. -/
def S.wakeAll (s : S) : List Nat → S
  | [] => s
  | i :: l => (s.setT i { s.ts i with wait := 2 }).wakeAll l
/-- The first k that wait for a condition wake. -/
def S.wake (s : S) (c k : Nat) : S := (s.wakeAll ((s.conds c).take k)).setCond c ((s.conds c).drop k)
/-- A task's act: the number it panics with, or what comes of it. -/
def doM (s : S) (i : Nat) : Except Int S :=
  let a := (s.ts i).act
  let x := a.a.toNat
  let y := a.b.toNat
  if a.kind = 1 then .ok ((s.setLock x i).go i)
  else if a.kind = 2 then (if s.locks x = i then .ok ((s.setLock x (-1)).go i) else .error (-1))
  else if a.kind = 3 then
    (if (s.ts i).wait = 0 then
      (if s.locks y = i then .ok (((s.setLock y (-1)).setT i { s.ts i with wait := 1 }).setCond x (s.conds x ++ [i])) else .error (-1))
     else .ok (((s.setT i { s.ts i with wait := 0 }).setLock y i).go i))
  else if a.kind = 4 then .ok ((s.wake x (min 1 (s.conds x).length)).go i)
  else if a.kind = 5 then .ok ((s.wake x (s.conds x).length).go i)
  else if a.kind = 6 then .ok ((s.setQueue x (s.queues x ++ [a.n])).go i)
  else if a.kind = 7 then .ok (((s.setReg y ((s.queues x).getD 0 0)).setQueue x ((s.queues x).drop 1)).go i)
  else if a.kind = 8 then .ok ((s.setReg x (wrap64 (s.regs x + a.n))).go i)
  else if a.kind = 9 then .ok ((s.setReg y (s.regs x)).go i)
  else if a.kind = 10 then .ok ((if s.regs x = 0 then s.setT i { s.ts i with pc := min ((s.ts i).pc + a.n.toNat) (s.ts i).acts.length } else s).go i)
  else if a.kind = 12 then .error a.n
  else if a.kind = 13 then .ok ((s.setT i { s.ts i with guard := a.n }).go i)
  else .ok (s.go i)
/-- What a panic makes of a task. -/
def caught (s : S) (i : Nat) (n : Int) : S :=
  if (s.ts i).guard < 0 then s.setT i { s.ts i with died := true, num := n }
  else (s.setT i { s.ts i with pc := (s.ts i).guard.toNat, guard := -1, wait := 0 }).setReg 7 n
/-- A task's step. -/
def mark (s : S) (i : Nat) : S := { s with trace := s.trace ++ [(i, (s.ts i).pc)], last := i }
def step (s : S) (i : Nat) : S :=
  match doM (mark s i) i with
  | .ok s2 => s2
  | .error n => caught (mark s i) i n
/-- At most so many steps. -/
def all (picks : List Nat) : Nat → S → S
  | 0, s => s
  | k + 1, s => if ready s = [] then s else all picks k (step s (next s (ready s) picks))
/-- A run ahead of its first step. -/
def begin_ (acts : List (List A)) (room : Int) : S :=
  ⟨acts.length, fun i => ⟨acts.getD i [], 0, -1, 0, false, 0⟩, room, fun _ => -1, fun _ => [], fun _ => [], fun _ => 0, -1, []⟩

/-- An act may be, in a list of so many. -/
def okA (len : Nat) (a : A) : Prop :=
  (a.kind = 1 ∨ a.kind = 2 ∨ a.kind = 4 ∨ a.kind = 5) ∧ 0 ≤ a.a ∧ a.a < 4 ∧ a.b = 0 ∧ a.n = 0 ∨
  a.kind = 3 ∧ 0 ≤ a.a ∧ a.a < 4 ∧ 0 ≤ a.b ∧ a.b < 4 ∧ a.n = 0 ∨
  a.kind = 6 ∧ 0 ≤ a.a ∧ a.a < 4 ∧ a.b = 0 ∨
  a.kind = 7 ∧ 0 ≤ a.a ∧ a.a < 4 ∧ 0 ≤ a.b ∧ a.b < 8 ∧ a.n = 0 ∨
  a.kind = 8 ∧ 0 ≤ a.a ∧ a.a < 8 ∧ a.b = 0 ∨
  a.kind = 9 ∧ 0 ≤ a.a ∧ a.a < 8 ∧ 0 ≤ a.b ∧ a.b < 8 ∧ a.n = 0 ∨
  a.kind = 10 ∧ 0 ≤ a.a ∧ a.a < 8 ∧ a.b = 0 ∧ 0 ≤ a.n ∧ a.n ≤ 255 ∨
  a.kind = 11 ∧ a.a = 0 ∧ a.b = 0 ∧ a.n = 0 ∨
  a.kind = 12 ∧ a.a = 0 ∧ a.b = 0 ∨
  a.kind = 13 ∧ a.a = 0 ∧ a.b = 0 ∧ 0 ≤ a.n ∧ a.n ≤ len
/-- What holds of each run; lines and queues hold at most L. -/
structure WF (s : S) (L : Nat) : Prop where
  n : s.n ≤ 16
  room : 1 ≤ s.room ∧ s.room ≤ 16
  lens : ∀ i, i < s.n → (s.ts i).acts.length ≤ 256
  acts : ∀ i, i < s.n → ∀ a ∈ (s.ts i).acts, okA (s.ts i).acts.length a
  pc : ∀ i, i < s.n → (s.ts i).pc ≤ (s.ts i).acts.length + 1
  guard : ∀ i, i < s.n → -1 ≤ (s.ts i).guard ∧ (s.ts i).guard ≤ (s.ts i).acts.length
  wait : ∀ i, i < s.n → (s.ts i).wait = 0 ∨ (s.ts i).wait = 1 ∨ (s.ts i).wait = 2
  conds : ∀ c, (∀ i ∈ s.conds c, i < s.n) ∧ (s.conds c).length ≤ L
  queues : ∀ c, (s.queues c).length ≤ L
section
variable {s : S} {L i : Nat}
theorem WF.mono {L2 : Nat} (h : WF s L) (hl : L ≤ L2) : WF s L2 :=
  ⟨h.n, h.room, h.lens, h.acts, h.pc, h.guard, h.wait, fun c => ⟨(h.conds c).1, Nat.le_trans (h.conds c).2 hl⟩, fun c => Nat.le_trans (h.queues c) hl⟩
theorem WF.mark (h : WF s L) : WF (mark s i) L := ⟨h.n, h.room, h.lens, h.acts, h.pc, h.guard, h.wait, h.conds, h.queues⟩
theorem WF.setT (h : WF s L) {t : T} (ha : t.acts = (s.ts i).acts) (hp : t.pc ≤ (s.ts i).acts.length + 1) (hg : -1 ≤ t.guard ∧ t.guard ≤ (s.ts i).acts.length) (hw : t.wait = 0 ∨ t.wait = 1 ∨ t.wait = 2) : WF (s.setT i t) L := by
  have e : ∀ j, j = i ∧ (s.setT i t).ts j = t ∨ j ≠ i ∧ (s.setT i t).ts j = s.ts j := fun j => by
    by_cases hj : j = i
    · subst hj; exact .inl ⟨rfl, upd_same _ _ _⟩
    · exact .inr ⟨hj, upd_ne _ _ _ _ hj⟩
  refine ⟨h.n, h.room, fun j hj => ?_, fun j hj => ?_, fun j hj => ?_, fun j hj => ?_, fun j hj => ?_, h.conds, h.queues⟩ <;>
    rcases e j with ⟨rfl, e⟩ | ⟨_, e⟩ <;> rw [e]
  · rw [ha]; exact h.lens _ hj
  · exact h.lens _ hj
  · rw [ha]; exact h.acts _ hj
  · exact h.acts _ hj
  · rw [ha]; exact hp
  · exact h.pc _ hj
  · rw [ha]; exact hg
  · exact h.guard _ hj
  · exact hw
  · exact h.wait _ hj
theorem WF.go (h : WF s L) (hi : i < s.n) (hp : (s.ts i).pc ≤ (s.ts i).acts.length) : WF (s.go i) L :=
  h.setT (t := { s.ts i with pc := (s.ts i).pc + 1 }) rfl (Nat.succ_le_succ hp) (h.guard i hi) (h.wait i hi)
theorem WF.setLock (h : WF s L) (k : Nat) (v : Int) : WF (s.setLock k v) L := ⟨h.n, h.room, h.lens, h.acts, h.pc, h.guard, h.wait, h.conds, h.queues⟩
theorem WF.setReg (h : WF s L) (k : Nat) (v : Int) : WF (s.setReg k v) L := ⟨h.n, h.room, h.lens, h.acts, h.pc, h.guard, h.wait, h.conds, h.queues⟩
theorem WF.setCond (h : WF s L) (k : Nat) {l : List Nat} (h1 : ∀ i ∈ l, i < s.n) (h2 : l.length ≤ L) : WF (s.setCond k l) L :=
  ⟨h.n, h.room, h.lens, h.acts, h.pc, h.guard, h.wait, fun c => by
    show (∀ i ∈ upd s.conds k l c, i < s.n) ∧ (upd s.conds k l c).length ≤ L
    unfold upd; split
    · exact ⟨h1, h2⟩
    · exact h.conds c, h.queues⟩
theorem WF.setQueue (h : WF s L) (k : Nat) {l : List Int} (h2 : l.length ≤ L) : WF (s.setQueue k l) L :=
  ⟨h.n, h.room, h.lens, h.acts, h.pc, h.guard, h.wait, h.conds, fun c => by
    show (upd s.queues k l c).length ≤ L
    unfold upd; split
    · exact h2
    · exact h.queues c⟩
theorem wakeAll_n (s : S) (l : List Nat) : (s.wakeAll l).n = s.n := by
  induction l generalizing s with
  | nil => rfl
  | cons i l ih => exact ih _
theorem wakeAll_trace (s : S) (l : List Nat) : (s.wakeAll l).trace = s.trace := by
  induction l generalizing s with
  | nil => rfl
  | cons i l ih => exact ih _
theorem wakeAll_conds (s : S) (l : List Nat) : (s.wakeAll l).conds = s.conds := by
  induction l generalizing s with
  | nil => rfl
  | cons i l ih => exact ih _
theorem wakeAll_t (s : S) (l : List Nat) (j : Nat) : ((s.wakeAll l).ts j).acts = (s.ts j).acts ∧ ((s.wakeAll l).ts j).pc = (s.ts j).pc ∧ ((s.wakeAll l).ts j).guard = (s.ts j).guard := by
  induction l generalizing s with
  | nil => exact ⟨rfl, rfl, rfl⟩
  | cons i l ih =>
    obtain ⟨h1, h2, h3⟩ := ih (s.setT i { s.ts i with wait := 2 })
    have : ((s.setT i { s.ts i with wait := 2 }).ts j).acts = (s.ts j).acts ∧ ((s.setT i { s.ts i with wait := 2 }).ts j).pc = (s.ts j).pc ∧ ((s.setT i { s.ts i with wait := 2 }).ts j).guard = (s.ts j).guard := by
      by_cases hj : j = i
      · subst hj; unfold S.setT; simp only [upd_same]; exact ⟨trivial, trivial, trivial⟩
      · unfold S.setT; simp only [upd_ne _ _ _ _ hj]; exact ⟨trivial, trivial, trivial⟩
    exact ⟨h1.trans this.1, h2.trans this.2.1, h3.trans this.2.2⟩
theorem WF.wakeAll : ∀ (l : List Nat) {s : S}, WF s L → (∀ i ∈ l, i < s.n) → WF (s.wakeAll l) L
  | [], _, h, _ => h
  | i :: l, s, h, hl => by
    have hi := hl i (by simp)
    exact WF.wakeAll l (h.setT (i := i) (t := { s.ts i with wait := 2 }) rfl (h.pc i hi) (h.guard i hi) (.inr (.inr rfl))) (fun j hj => hl j (by simp [hj]))
theorem WF.wake (h : WF s L) (c k : Nat) : WF (s.wake c k) L := by
  refine WF.setCond (WF.wakeAll _ h fun i hi => (h.conds c).1 i (List.mem_of_mem_take hi)) c (fun i hi => ?_) ?_
  · rw [wakeAll_n]; exact (h.conds c).1 i (List.mem_of_mem_drop hi)
  · rw [List.length_drop]; exact Nat.le_trans (Nat.sub_le _ _) (h.conds c).2
theorem how_ready {t : T} (h : how s t = 3) : t.died = false ∧ t.pc < t.acts.length := by
  unfold how at h
  split at h
  · cases h
  · split at h
    · cases h
    · rename_i h1 h2
      exact ⟨by simpa using h1, by omega⟩
theorem doM_ok (h : WF s L) (hi : i < s.n) (hp : (s.ts i).pc < (s.ts i).acts.length) {s2 : S} (hs : doM s i = .ok s2) : WF s2 (L + 1) ∧ s2.n = s.n ∧ s2.trace = s.trace := by
  have hp2 : (s.ts i).pc ≤ (s.ts i).acts.length := by omega
  have hw : ∀ k c, WF ((s.wake c k).go i) (L + 1) ∧ ((s.wake c k).go i).n = s.n ∧ ((s.wake c k).go i).trace = s.trace := fun k c => by
    have e := wakeAll_t s ((s.conds c).take k) i
    have hn := wakeAll_n s ((s.conds c).take k)
    refine ⟨((h.wake c k).go (show i < (s.wakeAll ((s.conds c).take k)).n by rw [hn]; exact hi) ?_).mono (by omega), hn, wakeAll_trace _ _⟩
    show ((s.wakeAll _).ts i).pc ≤ ((s.wakeAll _).ts i).acts.length
    rw [e.1, e.2.1]; exact hp2
  have hact : okA (s.ts i).acts.length (s.ts i).act := h.acts i hi _ (by unfold T.act; rw [List.getD_eq_getElem?_getD, List.getElem?_eq_getElem hp]; exact List.getElem_mem hp)
  unfold doM at hs
  dsimp only at hs
  by_cases hk : (s.ts i).act.kind = 1
  · rw [if_pos hk] at hs
    injection hs with hs; subst hs; exact ⟨((h.setLock _ _).go hi hp2).mono (by omega), rfl, rfl⟩
  rw [if_neg hk] at hs; clear hk
  by_cases hk : (s.ts i).act.kind = 2
  · rw [if_pos hk] at hs
    by_cases hl : s.locks (s.ts i).act.a.toNat = i
    · rw [if_pos hl] at hs
      injection hs with hs; subst hs; exact ⟨((h.setLock _ _).go hi hp2).mono (by omega), rfl, rfl⟩
    · rw [if_neg hl] at hs; cases hs
  rw [if_neg hk] at hs; clear hk
  by_cases hk : (s.ts i).act.kind = 3
  · rw [if_pos hk] at hs
    by_cases hw0 : (s.ts i).wait = 0
    · rw [if_pos hw0] at hs
      by_cases hl : s.locks (s.ts i).act.b.toNat = i
      · rw [if_pos hl] at hs
        injection hs with hs; subst hs
        refine ⟨(WF.setCond (((h.setLock _ _).setT (i := i) (t := { s.ts i with wait := 1 }) rfl (h.pc i hi) (h.guard i hi) (.inr (.inl rfl))).mono (by omega)) _ (fun j hj => ?_) ?_), rfl, rfl⟩
        · rcases List.mem_append.1 hj with hj | hj
          · exact (h.conds _).1 j hj
          · obtain rfl : j = i := by simpa using hj
            exact hi
        · have := (h.conds (s.ts i).act.a.toNat).2
          rw [List.length_append]; simp; omega
      · rw [if_neg hl] at hs; cases hs
    · rw [if_neg hw0] at hs
      injection hs with hs; subst hs
      have h1 : WF (s.setT i { s.ts i with wait := 0 }) L := h.setT rfl (h.pc i hi) (h.guard i hi) (.inl rfl)
      refine ⟨((h1.setLock _ _).go hi ?_).mono (by omega), rfl, rfl⟩
      show ((upd s.ts i _) i).pc ≤ ((upd s.ts i _) i).acts.length
      rw [upd_same]; exact hp2
  rw [if_neg hk] at hs; clear hk
  by_cases hk : (s.ts i).act.kind = 4
  · rw [if_pos hk] at hs
    injection hs with hs; subst hs; exact hw _ _
  rw [if_neg hk] at hs; clear hk
  by_cases hk : (s.ts i).act.kind = 5
  · rw [if_pos hk] at hs
    injection hs with hs; subst hs; exact hw _ _
  rw [if_neg hk] at hs; clear hk
  by_cases hk : (s.ts i).act.kind = 6
  · rw [if_pos hk] at hs
    injection hs with hs; subst hs
    refine ⟨WF.go ((h.mono (by omega)).setQueue _ ?_) hi hp2, rfl, rfl⟩
    have := h.queues (s.ts i).act.a.toNat
    rw [List.length_append]; simp; omega
  rw [if_neg hk] at hs; clear hk
  by_cases hk : (s.ts i).act.kind = 7
  · rw [if_pos hk] at hs
    injection hs with hs; subst hs
    refine ⟨(WF.go ((h.setReg _ _).setQueue _ ?_) hi hp2).mono (by omega), rfl, rfl⟩
    have := h.queues (s.ts i).act.a.toNat
    rw [List.length_drop]; omega
  rw [if_neg hk] at hs; clear hk
  by_cases hk : (s.ts i).act.kind = 8
  · rw [if_pos hk] at hs
    injection hs with hs; subst hs; exact ⟨((h.setReg _ _).go hi hp2).mono (by omega), rfl, rfl⟩
  rw [if_neg hk] at hs; clear hk
  by_cases hk : (s.ts i).act.kind = 9
  · rw [if_pos hk] at hs
    injection hs with hs; subst hs; exact ⟨((h.setReg _ _).go hi hp2).mono (by omega), rfl, rfl⟩
  rw [if_neg hk] at hs; clear hk
  by_cases hk : (s.ts i).act.kind = 10
  · rw [if_pos hk] at hs
    injection hs with hs; subst hs
    by_cases hz : s.regs (s.ts i).act.a.toNat = 0
    · rw [if_pos hz]
      have h1 : WF (s.setT i { s.ts i with pc := min ((s.ts i).pc + (s.ts i).act.n.toNat) (s.ts i).acts.length }) L := h.setT rfl (by show min _ _ ≤ _; omega) (h.guard i hi) (h.wait i hi)
      refine ⟨(h1.go hi ?_).mono (by omega), rfl, rfl⟩
      show ((upd s.ts i _) i).pc ≤ ((upd s.ts i _) i).acts.length
      rw [upd_same]; exact Nat.min_le_right _ _
    · rw [if_neg hz]
      exact ⟨(h.go hi hp2).mono (by omega), rfl, rfl⟩
  rw [if_neg hk] at hs; clear hk
  by_cases hk : (s.ts i).act.kind = 12
  · rw [if_pos hk] at hs; cases hs
  rw [if_neg hk] at hs; clear hk
  by_cases hk : (s.ts i).act.kind = 13
  · rw [if_pos hk] at hs
    injection hs with hs; subst hs
    have hg : -1 ≤ (s.ts i).act.n ∧ (s.ts i).act.n ≤ (s.ts i).acts.length := by unfold okA at hact; omega
    have h1 : WF (s.setT i { s.ts i with guard := (s.ts i).act.n }) L := h.setT rfl (h.pc i hi) hg (h.wait i hi)
    refine ⟨(h1.go hi ?_).mono (by omega), rfl, rfl⟩
    show ((upd s.ts i _) i).pc ≤ ((upd s.ts i _) i).acts.length
    rw [upd_same]; exact hp2
  · rw [if_neg hk] at hs
    injection hs with hs; subst hs; exact ⟨(h.go hi hp2).mono (by omega), rfl, rfl⟩
theorem caught_ok (h : WF s L) (hi : i < s.n) (n : Int) : WF (caught s i n) L ∧ (caught s i n).n = s.n ∧ (caught s i n).trace = s.trace := by
  unfold caught
  split
  · exact ⟨h.setT rfl (h.pc i hi) (h.guard i hi) (h.wait i hi), rfl, rfl⟩
  · have := (h.guard i hi).2
    exact ⟨(WF.setT (t := { s.ts i with pc := (s.ts i).guard.toNat, guard := -1, wait := 0 }) h rfl (by show Int.toNat _ ≤ _; omega) ⟨by show (-1 : Int) ≤ -1; omega, by show (-1 : Int) ≤ _; omega⟩ (.inl rfl)).setReg _ _, rfl, rfl⟩
theorem step_ok (h : WF s L) (hi : i < s.n) (hr : how s (s.ts i) = 3) : WF (step s i) (L + 1) ∧ (step s i).n = s.n ∧ (step s i).trace = s.trace ++ [(i, (s.ts i).pc)] := by
  have hp := (how_ready hr).2
  unfold step
  cases hd : doM (Go.Proofs.Ytompelilflckkaa.mark s i) i with
  | ok s2 => exact doM_ok h.mark hi hp hd
  | error n =>
    obtain ⟨h1, h2, h3⟩ := caught_ok (h.mark (i := i)) hi n
    exact ⟨h1.mono (Nat.le_succ L), h2, h3⟩
end
end Go.Proofs.Ytompelilflckkaa
/-
  The scheduler's run in memory: how it lies there, and what a store makes of it.
-/
namespace Go.Proofs.Ytompelilflckkaa
open Go.RowKit Go.Fl

abbrev iv (x : Int) : Value := .int .i64 x
def ptrs (b : Nat → Nat) (n : Nat) : List Value := (List.range n).map fun i => .pointer (some ⟨b i, 0, none⟩)
def nats (l : List Nat) : List Value := l.map fun (i : Nat) => iv i
def ints (l : List Int) : List Value := l.map fun i => iv i
def turns (l : List (Nat × Nat)) : List Value := l.flatMap fun p => [iv p.1, iv p.2]
theorem turns_append (a b : List (Nat × Nat)) : turns (a ++ b) = turns a ++ turns b := by simp [turns]
theorem turns_length (a : List (Nat × Nat)) : (turns a).length = a.length * 2 := by
  induction a with
  | nil => rfl
  | cons x a ih => simp only [turns, List.flatMap_cons, List.length_append, List.length_cons, List.length_nil] at ih ⊢; omega
theorem ite_cg {c : Prop} [Decidable c] {α : Type} {a a' b b' : α} (h1 : c → a = a') (h2 : ¬ c → b = b') : (if c then a else b) = (if c then a' else b') := by
  by_cases h : c
  · rw [if_pos h, if_pos h]; exact h1 h
  · rw [if_neg h, if_neg h]; exact h2 h
/-- What a run's cells hold. -/
def spec (b : Nat → Nat) (s : S) : Nat → FS := fun k =>
  if k = 0 then .row 77 1 s.n (ptrs b s.n)
  else if k = 1 then .val (iv s.room)
  else if k < 6 then .val (iv (s.locks (k - 2)))
  else if k < 10 then .row 3 1 (s.conds (k - 6)).length (nats (s.conds (k - 6)))
  else if k < 14 then .row 2 1 (s.queues (k - 10)).length (ints (s.queues (k - 10)))
  else if k < 22 then .val (iv (s.regs (k - 14)))
  else if k = 22 then .val (iv s.last)
  else .row 39 2 s.trace.length (turns s.trace)
section
variable {b : Nat → Nat} {s : S} {k : Nat}
theorem spec_lock (hk : k < 4) : spec b s (2 + k) = .val (iv (s.locks k)) := by
  unfold spec; rw [if_neg (by omega), if_neg (by omega), if_pos (by omega), Nat.add_sub_cancel_left]
theorem spec_cond (hk : k < 4) : spec b s (6 + k) = .row 3 1 (s.conds k).length (nats (s.conds k)) := by
  unfold spec; rw [if_neg (by omega), if_neg (by omega), if_neg (by omega), if_pos (by omega), Nat.add_sub_cancel_left]
theorem spec_queue (hk : k < 4) : spec b s (10 + k) = .row 2 1 (s.queues k).length (ints (s.queues k)) := by
  unfold spec; rw [if_neg (by omega), if_neg (by omega), if_neg (by omega), if_neg (by omega), if_pos (by omega), Nat.add_sub_cancel_left]
theorem spec_reg (hk : k < 8) : spec b s (14 + k) = .val (iv (s.regs k)) := by
  unfold spec; rw [if_neg (by omega), if_neg (by omega), if_neg (by omega), if_neg (by omega), if_neg (by omega), if_pos (by omega), Nat.add_sub_cancel_left]
theorem spec_elem {e : Nat} (h : (spec b s k).elem = some e) : e = 77 ∨ e = 3 ∨ e = 2 ∨ e = 39 := by
  unfold spec at h
  by_cases h1 : k = 0
  · rw [if_pos h1] at h; injection h with h; omega
  rw [if_neg h1] at h
  by_cases h1 : k = 1
  · rw [if_pos h1] at h; cases h
  rw [if_neg h1] at h
  by_cases h1 : k < 6
  · rw [if_pos h1] at h; cases h
  rw [if_neg h1] at h
  by_cases h1 : k < 10
  · rw [if_pos h1] at h; injection h with h; omega
  rw [if_neg h1] at h
  by_cases h1 : k < 14
  · rw [if_pos h1] at h; injection h with h; omega
  rw [if_neg h1] at h
  by_cases h1 : k < 22
  · rw [if_pos h1] at h; cases h
  rw [if_neg h1] at h
  by_cases h1 : k = 22
  · rw [if_pos h1] at h; cases h
  rw [if_neg h1] at h
  injection h with h; omega
theorem spec_setLock (x : Nat) (v : Int) {j : Nat} (hj : j ≠ 2 + x) : spec b (s.setLock x v) j = spec b s j :=
  ite_cg (fun _ => rfl) fun _ => ite_cg (fun _ => rfl) fun _ => ite_cg (fun _ => by
    show FS.val (iv (upd s.locks x v (j - 2))) = _
    rw [upd_ne _ _ _ _ (by omega)]) fun _ => rfl
theorem spec_setCond (x : Nat) (v : List Nat) {j : Nat} (hj : j ≠ 6 + x) : spec b (s.setCond x v) j = spec b s j :=
  ite_cg (fun _ => rfl) fun _ => ite_cg (fun _ => rfl) fun _ => ite_cg (fun _ => rfl) fun _ => ite_cg (fun _ => by
    show FS.row 3 1 (upd s.conds x v (j - 6)).length (nats (upd s.conds x v (j - 6))) = _
    rw [upd_ne _ _ _ _ (by omega)]) fun _ => rfl
theorem spec_setQueue (x : Nat) (v : List Int) {j : Nat} (hj : j ≠ 10 + x) : spec b (s.setQueue x v) j = spec b s j :=
  ite_cg (fun _ => rfl) fun _ => ite_cg (fun _ => rfl) fun _ => ite_cg (fun _ => rfl) fun _ => ite_cg (fun _ => rfl) fun _ => ite_cg (fun _ => by
    show FS.row 2 1 (upd s.queues x v (j - 10)).length (ints (upd s.queues x v (j - 10))) = _
    rw [upd_ne _ _ _ _ (by omega)]) fun _ => rfl
theorem spec_setReg (x : Nat) (v : Int) {j : Nat} (hj : j ≠ 14 + x) : spec b (s.setReg x v) j = spec b s j :=
  ite_cg (fun _ => rfl) fun _ => ite_cg (fun _ => rfl) fun _ => ite_cg (fun _ => rfl) fun _ => ite_cg (fun _ => rfl) fun _ => ite_cg (fun _ => rfl) fun _ => ite_cg (fun _ => by
    show FS.val (iv (upd s.regs x v (j - 14))) = _
    rw [upd_ne _ _ _ _ (by omega)]) fun _ => rfl
theorem spec_setLast (v : Int) {j : Nat} (hj : j ≠ 22) : spec b { s with last := v } j = spec b s j :=
  ite_cg (fun _ => rfl) fun _ => ite_cg (fun _ => rfl) fun _ => ite_cg (fun _ => rfl) fun _ => ite_cg (fun _ => rfl) fun _ => ite_cg (fun _ => rfl) fun _ => ite_cg (fun _ => rfl) fun _ => ite_cg (fun h => absurd h hj) fun _ => rfl
theorem spec_setTrace (l : List (Nat × Nat)) {j : Nat} (hj : j < 23) : spec b { s with trace := l } j = spec b s j :=
  ite_cg (fun _ => rfl) fun _ => ite_cg (fun _ => rfl) fun _ => ite_cg (fun _ => rfl) fun _ => ite_cg (fun _ => rfl) fun _ => ite_cg (fun _ => rfl) fun _ => ite_cg (fun _ => rfl) fun _ => ite_cg (fun _ => rfl) fun _ => by omega
end

/-- A task's cells. -/
def TaskB (w : World) (g : Nat) (v : Value) (t : T) : Prop := Blk w g 80 #[v, iv t.pc, iv t.guard, iv t.wait, .bool t.died, iv t.num]
def actV (a : A) : Value := .agg #[iv a.kind, iv a.a, iv a.b, iv a.n]
/-- A list of acts that was given. -/
def ActsV (base : Nat) (w : World) (v : Value) (l : List A) : Prop :=
  ∃ a cap, v = .slice a l.length cap ∧ l.length ≤ cap ∧ cap ≤ maxLen ∧ (0 < l.length → ∃ g off, a = some ⟨g, off, none⟩ ∧ g < base ∧ g < w.heap.size ∧
    ∀ i (h : i < l.length), w.cell? ⟨g, off + i * 4, none⟩ = some (iv l[i].kind) ∧ w.cell? ⟨g, off + i * 4 + 1, none⟩ = some (iv l[i].a) ∧ w.cell? ⟨g, off + i * 4 + 2, none⟩ = some (iv l[i].b) ∧ w.cell? ⟨g, off + i * 4 + 3, none⟩ = some (iv l[i].n))
theorem ActsV.below {base : Nat} {w w' : World} {v : Value} {l : List A} (h : ActsV base w v l) (hb : Below base w w') : ActsV base w' v l := by
  obtain ⟨a, cap, rfl, h1, h2, h3⟩ := h
  refine ⟨a, cap, rfl, h1, h2, fun h0 => ?_⟩
  obtain ⟨g, off, rfl, hg, hgs, hh⟩ := h3 h0
  have e : ∀ j, w'.cell? ⟨g, j, none⟩ = w.cell? ⟨g, j, none⟩ := fun j => World.cell?_of_block (w := w) (hb.block g hg)
  refine ⟨g, off, rfl, hg, Nat.lt_of_lt_of_le hgs hb.size, fun i hi => ?_⟩
  rw [e, e, e, e]
  exact hh i hi
/-- The run in memory: its own block r, its tasks' blocks b; all that was given lies below base. -/
structure RS (w : World) (base r : Nat) (f : Nat → Value) (b : Nat → Nat) (s : S) : Prop where
  rc : Rec w base r 76 24 f (spec b s)
  task : ∀ i, i < s.n → ∃ v, TaskB w (b i) v (s.ts i) ∧ ActsV base w v (s.ts i).acts
  tb : ∀ i, i < s.n → base ≤ b i
  bdis : ∀ i j, i < s.n → j < s.n → i ≠ j → b i ≠ b j
section
variable {w w1 : World} {base r : Nat} {f : Nat → Value} {b : Nat → Nat} {s : S}
theorem RS.base_le (h : RS w base r f b s) : base ≤ w.heap.size := Nat.le_trans h.rc.ge (Nat.le_of_lt h.rc.blk.lt)
theorem Below.of_only {B : Nat} (ho : Only [] w w1) (hB : B ≤ w.heap.size) : Below B w w1 := ⟨ho.os, ho.tape, ho.output, ho.size, fun i hi => ho.block i (by omega) (by simp)⟩
theorem RS.only0 (h : RS w base r f b s) (ho : Only [] w w1) : RS w1 base r f b s ∧ Below base w w1 := by
  have hb := Below.of_only ho h.base_le
  exact ⟨⟨h.rc.only0 ho, fun i hi => by
    obtain ⟨v, h1, h2⟩ := h.task i hi
    exact ⟨v, Blk.only h1 ho (by simp), h2.below hb⟩, h.tb, h.bdis⟩, hb⟩
theorem RS.put (h : RS w base r f b s) {k : Nat} (hk : k < 24) {u : Value} {s' : S} (hn : s'.n = s.n) (hts : s'.ts = s.ts) (hg : w.grownBy w1 ((spec b s k).own (f k))) (hu : (spec b s' k).ok w1 u)
    (hown : ∀ g, (spec b s' k).own u = some g → (spec b s k).own (f k) = some g ∨ w.heap.size ≤ g) (hsp : ∀ j, j < 24 → j ≠ k → spec b s' j = spec b s j) :
    RS (w1.setCell ⟨r, k, none⟩ u) base r (upd f k u) b s' ∧ Below base w (w1.setCell ⟨r, k, none⟩ u) ∧ Blk w1 r 76 (cellsN 24 f) := by
  obtain ⟨h1, h2, h3, h4⟩ := h.rc.put hk hg hu (fun e => by have := spec_elem e; omega) hown hsp
  refine ⟨⟨h1, fun i hi => ?_, fun i hi => h.tb i (hn ▸ hi), fun i j hi hj => h.bdis i j (hn ▸ hi) (hn ▸ hj)⟩, h2, h4⟩
  obtain ⟨v, h5, h6⟩ := h.task i (hn ▸ hi)
  rw [hts]
  refine ⟨v, Blk.only h5 h3 fun hm => ?_, h6.below h2⟩
  simp only [List.mem_cons, Option.mem_toList] at hm
  rcases hm with hm | hm
  · have := Blk.ty_eq (hm ▸ h5 : Blk w r 80 _) h.rc.blk
    cases this
  · obtain ⟨e, cur, he, hb⟩ := h.rc.ownty hk hm
    have h7 : e = 80 := hb.ty_eq h5
    have h8 := spec_elem he
    rw [h7] at h8
    simp at h8
theorem grown_refl (w : World) (x : Option Nat) : w.grownBy w x := ⟨rfl, rfl, rfl, Nat.le_refl _, fun _ _ _ => rfl⟩
theorem RS.lock (h : RS w base r f b s) {k : Nat} (hk : k < 4) (v : Int) : RS (w.setCell ⟨r, 2 + k, none⟩ (iv v)) base r (upd f (2 + k) (iv v)) b (s.setLock k v) ∧ Below base w (w.setCell ⟨r, 2 + k, none⟩ (iv v)) := by
  have e : spec b (s.setLock k v) (2 + k) = .val (iv v) := by rw [spec_lock hk]; show FS.val (iv (upd s.locks k v k)) = _; rw [upd_same]
  obtain ⟨h1, h2, _⟩ := h.put (k := 2 + k) (u := iv v) (s' := s.setLock k v) (w1 := w) (by omega) rfl rfl (grown_refl _ _) (by rw [e]; rfl) (fun g hg => by rw [e] at hg; cases hg) (fun j _ hj => spec_setLock k v hj)
  exact ⟨h1, h2⟩
theorem RS.reg (h : RS w base r f b s) {k : Nat} (hk : k < 8) (v : Int) : RS (w.setCell ⟨r, 14 + k, none⟩ (iv v)) base r (upd f (14 + k) (iv v)) b (s.setReg k v) ∧ Below base w (w.setCell ⟨r, 14 + k, none⟩ (iv v)) := by
  have e : spec b (s.setReg k v) (14 + k) = .val (iv v) := by rw [spec_reg hk]; show FS.val (iv (upd s.regs k v k)) = _; rw [upd_same]
  obtain ⟨h1, h2, _⟩ := h.put (k := 14 + k) (u := iv v) (s' := s.setReg k v) (w1 := w) (by omega) rfl rfl (grown_refl _ _) (by rw [e]; rfl) (fun g hg => by rw [e] at hg; cases hg) (fun j _ hj => spec_setReg k v hj)
  exact ⟨h1, h2⟩
theorem RS.last (h : RS w base r f b s) (v : Int) : RS (w.setCell ⟨r, 22, none⟩ (iv v)) base r (upd f 22 (iv v)) b { s with last := v } ∧ Below base w (w.setCell ⟨r, 22, none⟩ (iv v)) := by
  obtain ⟨h1, h2, _⟩ := h.put (k := 22) (u := iv v) (s' := { s with last := v }) (w1 := w) (by omega) rfl rfl (grown_refl _ _) (show FS.ok w (iv v) (.val (iv v)) from rfl) (fun g hg => nomatch (show FS.own (iv v) (.val (iv v)) = some g from hg)) (fun j _ hj => spec_setLast v hj)
  exact ⟨h1, h2⟩
theorem RS.cond (h : RS w base r f b s) {k : Nat} (hk : k < 4) {v : Value} {l : List Nat} (hS : Sl w1 3 1 v l.length (nats l)) (hg : w.grownBy w1 (f (6 + k)).ownBlock) (hown : ∀ g, v.ownBlock = some g → (f (6 + k)).ownBlock = some g ∨ w.heap.size ≤ g) :
    RS (w1.setCell ⟨r, 6 + k, none⟩ v) base r (upd f (6 + k) v) b (s.setCond k l) ∧ Below base w (w1.setCell ⟨r, 6 + k, none⟩ v) ∧ Blk w1 r 76 (cellsN 24 f) := by
  have e : spec b (s.setCond k l) (6 + k) = .row 3 1 l.length (nats l) := by rw [spec_cond hk]; show FS.row 3 1 (upd s.conds k l k).length (nats (upd s.conds k l k)) = _; rw [upd_same]
  exact h.put (k := 6 + k) (u := v) (s' := s.setCond k l) (w1 := w1) (by omega) rfl rfl (by rw [spec_cond hk]; exact hg) (by rw [e]; exact hS) (fun g hg => by rw [e] at hg; rw [spec_cond hk]; exact hown g hg) (fun j _ hj => spec_setCond k l hj)
theorem RS.queue (h : RS w base r f b s) {k : Nat} (hk : k < 4) {v : Value} {l : List Int} (hS : Sl w1 2 1 v l.length (ints l)) (hg : w.grownBy w1 (f (10 + k)).ownBlock) (hown : ∀ g, v.ownBlock = some g → (f (10 + k)).ownBlock = some g ∨ w.heap.size ≤ g) :
    RS (w1.setCell ⟨r, 10 + k, none⟩ v) base r (upd f (10 + k) v) b (s.setQueue k l) ∧ Below base w (w1.setCell ⟨r, 10 + k, none⟩ v) ∧ Blk w1 r 76 (cellsN 24 f) := by
  have e : spec b (s.setQueue k l) (10 + k) = .row 2 1 l.length (ints l) := by rw [spec_queue hk]; show FS.row 2 1 (upd s.queues k l k).length (ints (upd s.queues k l k)) = _; rw [upd_same]
  exact h.put (k := 10 + k) (u := v) (s' := s.setQueue k l) (w1 := w1) (by omega) rfl rfl (by rw [spec_queue hk]; exact hg) (by rw [e]; exact hS) (fun g hg => by rw [e] at hg; rw [spec_queue hk]; exact hown g hg) (fun j _ hj => spec_setQueue k l hj)
theorem RS.trace (h : RS w base r f b s) {v : Value} {l : List (Nat × Nat)} (hS : Sl w1 39 2 v l.length (turns l)) (hg : w.grownBy w1 (f 23).ownBlock) (hown : ∀ g, v.ownBlock = some g → (f 23).ownBlock = some g ∨ w.heap.size ≤ g) :
    RS (w1.setCell ⟨r, 23, none⟩ v) base r (upd f 23 v) b { s with trace := l } ∧ Below base w (w1.setCell ⟨r, 23, none⟩ v) ∧ Blk w1 r 76 (cellsN 24 f) :=
  h.put (k := 23) (u := v) (s' := { s with trace := l }) (w1 := w1) (by omega) rfl rfl hg (show FS.ok w1 v (.row 39 2 l.length (turns l)) from hS) (fun g hg => hown g hg) (fun j hj hne => spec_setTrace l (by omega))
/-- A task is turned in its own block. -/
theorem RS.setT (h : RS w base r f b s) {i j : Nat} (hi : i < s.n) {u : Value} {t : T} (ha : t.acts = (s.ts i).acts)
    (hc : ∀ v, SetEq (#[v, iv (s.ts i).pc, iv (s.ts i).guard, iv (s.ts i).wait, .bool (s.ts i).died, iv (s.ts i).num].setIfInBounds j u) #[v, iv t.pc, iv t.guard, iv t.wait, .bool t.died, iv t.num]) :
    RS (w.setCell ⟨b i, j, none⟩ u) base r f b (s.setT i t) ∧ Below base w (w.setCell ⟨b i, j, none⟩ u) := by
  obtain ⟨v, h1, h2⟩ := h.task i hi
  have ho : Only [b i] w (w.setCell ⟨b i, j, none⟩ u) := (Only.refl _ w).setCell (.inl (by simp)) _
  have hb : Below base w (w.setCell ⟨b i, j, none⟩ u) := ⟨ho.os, ho.tape, ho.output, ho.size, fun k hk => ho.block k (by have := h.base_le; omega) (by simp; rintro rfl; have := h.tb i hi; omega)⟩
  refine ⟨⟨h.rc.only ho fun g hg => ?_, fun k hk => ?_, h.tb, h.bdis⟩, hb⟩
  · obtain rfl : g = b i := by simpa using hg
    exact ⟨80, _, h1, by decide, fun k _ e => by have := spec_elem e; omega⟩
  · by_cases hki : k = i
    · subst hki
      show ∃ v, TaskB _ _ v (upd s.ts k t k) ∧ ActsV _ _ v (upd s.ts k t k).acts
      rw [upd_same]
      exact ⟨v, Blk.set' h1 (hc v), by rw [ha]; exact h2.below hb⟩
    · obtain ⟨v2, h3, h4⟩ := h.task k hk
      show ∃ v, TaskB _ _ v (upd s.ts i t k) ∧ ActsV _ _ v (upd s.ts i t k).acts
      rw [upd_ne _ _ _ _ hki]
      exact ⟨v2, Blk.only h3 ho (by simpa using h.bdis k i hk hi hki), h4.below hb⟩
end
theorem setT_setT (s : S) (i : Nat) (t u : T) : (s.setT i t).setT i u = s.setT i u := by
  have : upd (upd s.ts i t) i u = upd s.ts i u := by
    funext j
    by_cases h : j = i
    · subst h; rw [upd_same, upd_same]
    · rw [upd_ne _ _ _ _ h, upd_ne _ _ _ _ h, upd_ne _ _ _ _ h]
  show { s with ts := upd (upd s.ts i t) i u } = _
  rw [this]
  rfl
theorem setT_ts (s : S) (i : Nat) (t : T) : (s.setT i t).ts i = t := upd_same _ _ _
end Go.Proofs.Ytompelilflckkaa
/-
  Steps in plain words: what each kind of act does; a run that keeps something ends where nobody is ready.
-/
namespace Go.Proofs.Ytompelilflckkaa
open Go.RowKit Go.Fl

theorem rdy_mem {s : S} {i : Nat} : i ∈ ready s ↔ i < s.n ∧ how s (s.ts i) = 3 := by
  unfold ready
  rw [List.mem_filter, List.mem_range]
  simp
theorem nxt_mem {s : S} {l picks : List Nat} (h : l ≠ []) : next s l picks ∈ l := by
  have hl : 0 < l.length := List.length_pos_iff.2 h
  have hg : ∀ k, k < l.length → l.getD k 0 ∈ l := fun k hk => by
    rw [List.getD_eq_getElem?_getD, List.getElem?_eq_getElem hk]
    exact List.getElem_mem hk
  unfold next
  by_cases hk : s.trace.length < picks.length
  · rw [dif_pos hk]
    exact hg _ (Nat.mod_lt _ hl)
  · rw [dif_neg hk]
    cases hf : l.find? (fun (i : Nat) => decide (s.last < (i : Int))) with
    | none => exact hg _ hl
    | some i => exact List.mem_of_find?_eq_some hf
theorem allStop {picks : List Nat} {k : Nat} {s : S} (h : ready s = []) : all picks k s = s := by
  cases k with
  | zero => rfl
  | succ k => unfold all; rw [if_pos h]
theorem allGo {picks : List Nat} {k : Nat} {s : S} (h : ready s ≠ []) : all picks (k + 1) s = all picks k (step s (next s (ready s) picks)) := by
  conv => lhs; unfold all
  rw [if_neg h]
/-- What is kept by each step, and tells how many steps there may be, holds at the end, where nobody is ready. -/
theorem all_end {Inv : S → Prop} {B : Nat} (picks : List Nat) (hs : ∀ s i, Inv s → i < s.n → how s (s.ts i) = 3 → Inv (step s i) ∧ (step s i).trace.length = s.trace.length + 1) (hb : ∀ s, Inv s → s.trace.length ≤ B) :
    ∀ (k : Nat) (s : S), Inv s → B ≤ s.trace.length + k → Inv (all picks k s) ∧ ready (all picks k s) = []
  | 0, s, h, hk => by
    by_cases hr : ready s = []
    · exact ⟨h, hr⟩
    · obtain ⟨i, hi⟩ := List.exists_mem_of_ne_nil _ hr
      obtain ⟨h1, h2⟩ := rdy_mem.1 hi
      obtain ⟨h3, h4⟩ := hs s i h h1 h2
      have := hb _ h3
      omega
  | k + 1, s, h, hk => by
    by_cases hr : ready s = []
    · rw [allStop hr]; exact ⟨h, hr⟩
    · rw [allGo hr]
      obtain ⟨h1, h2⟩ := rdy_mem.1 (nxt_mem (picks := picks) hr)
      obtain ⟨h3, h4⟩ := hs s _ h h1 h2
      exact all_end picks hs hb k _ h3 (by omega)
section
variable {s : S} {i : Nat}
theorem step_lock {a : Int} (h : (s.ts i).act = ⟨1, a, 0, 0⟩) : step s i = ((mark s i).setLock a.toNat i).go i := by
  have e : ((mark s i).ts i).act = ⟨1, a, 0, 0⟩ := h
  have hd : doM (mark s i) i = .ok (((mark s i).setLock a.toNat i).go i) := by unfold doM; rw [e]; rfl
  unfold step; rw [hd]
theorem step_unlock {a : Int} (h : (s.ts i).act = ⟨2, a, 0, 0⟩) (hl : s.locks a.toNat = i) : step s i = ((mark s i).setLock a.toNat (-1)).go i := by
  have e : ((mark s i).ts i).act = ⟨2, a, 0, 0⟩ := h
  have hl2 : (mark s i).locks a.toNat = i := hl
  have hd : doM (mark s i) i = .ok (((mark s i).setLock a.toNat (-1)).go i) := by
    unfold doM; rw [e]; dsimp only
    rw [if_neg (by omega), if_pos rfl, if_pos hl2]
  unfold step; rw [hd]
theorem step_wait {a b : Int} (h : (s.ts i).act = ⟨3, a, b, 0⟩) (hw : (s.ts i).wait = 0) (hl : s.locks b.toNat = i) : step s i = (((mark s i).setLock b.toNat (-1)).setT i { s.ts i with wait := 1 }).setCond a.toNat (s.conds a.toNat ++ [i]) := by
  have e : ((mark s i).ts i).act = ⟨3, a, b, 0⟩ := h
  have hl2 : (mark s i).locks b.toNat = i := hl
  have hw2 : ((mark s i).ts i).wait = 0 := hw
  have hd : doM (mark s i) i = .ok ((((mark s i).setLock b.toNat (-1)).setT i { s.ts i with wait := 1 }).setCond a.toNat (s.conds a.toNat ++ [i])) := by
    unfold doM; rw [e]; dsimp only
    rw [if_neg (by omega), if_neg (by omega), if_pos rfl, if_pos hw2, if_pos hl2]
    rfl
  unfold step; rw [hd]
theorem step_woken {a b : Int} (h : (s.ts i).act = ⟨3, a, b, 0⟩) (hw : (s.ts i).wait = 2) : step s i = (((mark s i).setT i { s.ts i with wait := 0 }).setLock b.toNat i).go i := by
  have e : ((mark s i).ts i).act = ⟨3, a, b, 0⟩ := h
  have hw2 : ((mark s i).ts i).wait = 2 := hw
  have hd : doM (mark s i) i = .ok ((((mark s i).setT i { s.ts i with wait := 0 }).setLock b.toNat i).go i) := by
    unfold doM; rw [e]; dsimp only
    rw [if_neg (by omega), if_neg (by omega), if_pos rfl, if_neg (by omega)]
    rfl
  unfold step; rw [hd]
theorem step_signal {a : Int} (h : (s.ts i).act = ⟨4, a, 0, 0⟩) : step s i = ((mark s i).wake a.toNat (min 1 (s.conds a.toNat).length)).go i := by
  have e : ((mark s i).ts i).act = ⟨4, a, 0, 0⟩ := h
  have hd : doM (mark s i) i = .ok (((mark s i).wake a.toNat (min 1 (s.conds a.toNat).length)).go i) := by unfold doM; rw [e]; rfl
  unfold step; rw [hd]
theorem step_cast {a : Int} (h : (s.ts i).act = ⟨5, a, 0, 0⟩) : step s i = ((mark s i).wake a.toNat (s.conds a.toNat).length).go i := by
  have e : ((mark s i).ts i).act = ⟨5, a, 0, 0⟩ := h
  have hd : doM (mark s i) i = .ok (((mark s i).wake a.toNat (s.conds a.toNat).length).go i) := by unfold doM; rw [e]; rfl
  unfold step; rw [hd]
theorem step_put {a n : Int} (h : (s.ts i).act = ⟨6, a, 0, n⟩) : step s i = ((mark s i).setQueue a.toNat (s.queues a.toNat ++ [n])).go i := by
  have e : ((mark s i).ts i).act = ⟨6, a, 0, n⟩ := h
  have hd : doM (mark s i) i = .ok (((mark s i).setQueue a.toNat (s.queues a.toNat ++ [n])).go i) := by unfold doM; rw [e]; rfl
  unfold step; rw [hd]
theorem step_take {a b : Int} (h : (s.ts i).act = ⟨7, a, b, 0⟩) : step s i = (((mark s i).setReg b.toNat ((s.queues a.toNat).getD 0 0)).setQueue a.toNat ((s.queues a.toNat).drop 1)).go i := by
  have e : ((mark s i).ts i).act = ⟨7, a, b, 0⟩ := h
  have hd : doM (mark s i) i = .ok ((((mark s i).setReg b.toNat ((s.queues a.toNat).getD 0 0)).setQueue a.toNat ((s.queues a.toNat).drop 1)).go i) := by unfold doM; rw [e]; rfl
  unfold step; rw [hd]
theorem step_add {a n : Int} (h : (s.ts i).act = ⟨8, a, 0, n⟩) : step s i = ((mark s i).setReg a.toNat (wrap64 (s.regs a.toNat + n))).go i := by
  have e : ((mark s i).ts i).act = ⟨8, a, 0, n⟩ := h
  have hd : doM (mark s i) i = .ok (((mark s i).setReg a.toNat (wrap64 (s.regs a.toNat + n))).go i) := by unfold doM; rw [e]; rfl
  unfold step; rw [hd]
theorem step_copy {a b : Int} (h : (s.ts i).act = ⟨9, a, b, 0⟩) : step s i = ((mark s i).setReg b.toNat (s.regs a.toNat)).go i := by
  have e : ((mark s i).ts i).act = ⟨9, a, b, 0⟩ := h
  have hd : doM (mark s i) i = .ok (((mark s i).setReg b.toNat (s.regs a.toNat)).go i) := by unfold doM; rw [e]; rfl
  unfold step; rw [hd]
theorem step_yield (h : (s.ts i).act = ⟨11, 0, 0, 0⟩) : step s i = (mark s i).go i := by
  have e : ((mark s i).ts i).act = ⟨11, 0, 0, 0⟩ := h
  have hd : doM (mark s i) i = .ok ((mark s i).go i) := by unfold doM; rw [e]; rfl
  unfold step; rw [hd]
end
theorem go_at (s : S) (i : Nat) : (s.go i).ts i = { s.ts i with pc := (s.ts i).pc + 1 } := upd_same _ _ _
theorem go_to {s : S} {i pc : Nat} {acts : List A} {g w : Int} {d : Bool} {num : Int} (h : s.ts i = ⟨acts, pc, g, w, d, num⟩) : (s.go i).ts i = ⟨acts, pc + 1, g, w, d, num⟩ := by rw [go_at, h]
theorem go_ne (s : S) {i j : Nat} (h : j ≠ i) : (s.go i).ts j = s.ts j := upd_ne _ _ _ _ h
end Go.Proofs.Ytompelilflckkaa
/-
  SchedQueues in plain words: who puts and who takes: a run of them.
-/
namespace Go.Proofs.Ytompelilflckkaa
open Go.RowKit Go.Fl

def qPut (n : Nat) : List A := (List.range n).map fun (i : Nat) => ⟨6, 0, 0, (i : Int)⟩
def qTake (n : Nat) : List A := (List.range n).map fun (_ : Nat) => ⟨7, 0, 3, 0⟩
def qTasks (n : Nat) : List (List A) := [qPut n, qTake n]
theorem qPut_len (n : Nat) : (qPut n).length = n := by simp [qPut]
theorem qTake_len (n : Nat) : (qTake n).length = n := by simp [qTake]
theorem qPut_at {n i : Nat} (h : i < n) : (qPut n).getD i A.none = ⟨6, 0, 0, (i : Int)⟩ := by
  rw [List.getD_eq_getElem?_getD, List.getElem?_eq_getElem (by rw [qPut_len]; exact h)]
  simp [qPut]
theorem qTake_at {n i : Nat} (h : i < n) : (qTake n).getD i A.none = ⟨7, 0, 3, 0⟩ := by
  rw [List.getD_eq_getElem?_getD, List.getElem?_eq_getElem (by rw [qTake_len]; exact h)]
  simp [qTake]
/-- How many more were put than taken. -/
def level : List (Nat × Nat) → Int
  | [] => 0
  | x :: l => (if x.1 = 0 then 1 else -1) + level l
theorem level_snoc (l : List (Nat × Nat)) (x : Nat × Nat) : level (l ++ [x]) = level l + if x.1 = 0 then 1 else -1 := by
  induction l with
  | nil => simp [level]
  | cons y l ih => simp only [List.cons_append, level, ih]; omega
/-- p were put, t were taken. -/
structure QI (n room p t : Nat) (s : S) : Prop where
  sn : s.n = 2
  rm : s.room = room
  t0 : s.ts 0 = ⟨qPut n, p, -1, 0, false, 0⟩
  t1 : s.ts 1 = ⟨qTake n, t, -1, 0, false, 0⟩
  le : t ≤ p ∧ p ≤ n ∧ p ≤ t + room
  q : s.queues 0 = (List.range' t (p - t)).map fun k => ((k : Nat) : Int)
  r3 : s.regs 3 = if t = 0 then 0 else ((t - 1 : Nat) : Int)
  tr : s.trace.length = p + t
  lv : level s.trace = (p : Int) - t
  ok : ∀ k, k ≤ s.trace.length → 0 ≤ level (s.trace.take k) ∧ level (s.trace.take k) ≤ room
theorem QI.act0 {n room p t : Nat} {s : S} (h : QI n room p t s) (hp : p < n) : (s.ts 0).act = ⟨6, 0, 0, (p : Int)⟩ := by rw [h.t0]; exact qPut_at hp
theorem QI.act1 {n room p t : Nat} {s : S} (h : QI n room p t s) (hp : t < n) : (s.ts 1).act = ⟨7, 0, 3, 0⟩ := by rw [h.t1]; exact qTake_at hp
theorem QI.qlen {n room p t : Nat} {s : S} (h : QI n room p t s) : (s.queues 0).length = p - t := by rw [h.q]; simp
theorem QI.how0 {n room p t : Nat} {s : S} (h : QI n room p t s) : how s (s.ts 0) = if p = n then 1 else if p = t + room then 6 else 3 := by
  have hl := h.le
  by_cases hp : p = n
  · rw [if_pos hp]
    unfold how
    rw [if_neg (by rw [h.t0]; simp), if_pos (by rw [h.t0, ]; show (qPut n).length ≤ p; rw [qPut_len]; omega)]
  · rw [if_neg hp]
    have ha := h.act0 (by omega)
    have hql := h.qlen
    unfold how
    rw [if_neg (by rw [h.t0]; simp), if_neg (by rw [h.t0, ]; show ¬ (qPut n).length ≤ p; rw [qPut_len]; omega), ha, h.rm]
    dsimp only
    rw [if_neg (by omega), if_neg (by omega)]
    show (if (6 : Int) = 6 ∧ (room : Int) ≤ (s.queues 0).length then (6 : Int) else if (6 : Int) = 7 ∧ s.queues 0 = [] then 7 else 3) = _
    rw [hql]
    by_cases hr : p = t + room
    · rw [if_pos hr, if_pos (by omega)]
    · rw [if_neg hr, if_neg (by omega), if_neg (by omega)]
theorem QI.how1 {n room p t : Nat} {s : S} (h : QI n room p t s) : how s (s.ts 1) = if t = n then 1 else if p = t then 7 else 3 := by
  have hl := h.le
  by_cases hp : t = n
  · rw [if_pos hp]
    unfold how
    rw [if_neg (by rw [h.t1]; simp), if_pos (by rw [h.t1, ]; show (qTake n).length ≤ t; rw [qTake_len]; omega)]
  · rw [if_neg hp]
    have ha := h.act1 (by omega)
    have hql := h.qlen
    unfold how
    rw [if_neg (by rw [h.t1]; simp), if_neg (by rw [h.t1, ]; show ¬ (qTake n).length ≤ t; rw [qTake_len]; omega), ha, h.rm]
    dsimp only
    rw [if_neg (by omega), if_neg (by omega)]
    show (if (7 : Int) = 6 ∧ (room : Int) ≤ (s.queues 0).length then (6 : Int) else if (7 : Int) = 7 ∧ s.queues 0 = [] then 7 else 3) = _
    rw [if_neg (by omega)]
    by_cases hr : p = t
    · rw [if_pos hr, if_pos ⟨rfl, List.length_eq_zero_iff.1 (by omega)⟩]
    · rw [if_neg hr, if_neg (by rintro ⟨_, e⟩; rw [e] at hql; simp at hql; omega)]
theorem QI.put {n room p t : Nat} {s : S} (h : QI n room p t s) (hp : p < n) (hr : p < t + room) : QI n room (p + 1) t (step s 0) ∧ (step s 0).trace.length = s.trace.length + 1 := by
  have ha := h.act0 hp
  have hl := h.le
  rw [step_put ha]
  have htr : (((mark s 0).setQueue (0 : Int).toNat (s.queues (0 : Int).toNat ++ [(p : Int)])).go 0).trace = s.trace ++ [(0, (s.ts 0).pc)] := rfl
  refine ⟨⟨h.sn, h.rm, ?_, ?_, by omega, ?_, h.r3, ?_, ?_, ?_⟩, ?_⟩
  · rw [go_at]
    show { s.ts 0 with pc := (s.ts 0).pc + 1 } = _
    rw [h.t0]
  · rw [go_ne _ (by omega)]
    exact h.t1
  · show (upd s.queues 0 (s.queues 0 ++ [(p : Int)])) 0 = _
    rw [upd_same, h.q, show p + 1 - t = (p - t) + 1 by omega, List.range'_concat, List.map_append]
    simp; omega
  · rw [htr, List.length_append, h.tr]; simp; omega
  · rw [htr, level_snoc, h.lv, if_pos rfl]; omega
  · intro k hk
    rw [htr] at hk ⊢
    rw [List.length_append] at hk
    by_cases hk2 : k ≤ s.trace.length
    · rw [List.take_append_of_le_length hk2]
      exact h.ok k hk2
    · rw [List.take_of_length_le (by rw [List.length_append]; simp at hk ⊢; omega), level_snoc, h.lv, if_pos rfl]; omega
  · rw [htr, List.length_append]; rfl
theorem QI.take {n room p t : Nat} {s : S} (h : QI n room p t s) (hp : t < n) (hr : t < p) : QI n room p (t + 1) (step s 1) ∧ (step s 1).trace.length = s.trace.length + 1 := by
  have ha := h.act1 hp
  have hl := h.le
  rw [step_take ha]
  have htr : ((((mark s 1).setReg (3 : Int).toNat ((s.queues (0 : Int).toNat).getD 0 0)).setQueue (0 : Int).toNat ((s.queues (0 : Int).toNat).drop 1)).go 1).trace = s.trace ++ [(1, (s.ts 1).pc)] := rfl
  have hq : s.queues 0 = (t : Int) :: (List.range' (t + 1) (p - (t + 1))).map fun k => ((k : Nat) : Int) := by
    rw [h.q, show p - t = (p - (t + 1)) + 1 by omega, List.range'_succ, List.map_cons]
  refine ⟨⟨h.sn, h.rm, ?_, ?_, by omega, ?_, ?_, ?_, ?_, ?_⟩, ?_⟩
  · rw [go_ne _ (by omega)]
    exact h.t0
  · rw [go_at]
    show { s.ts 1 with pc := (s.ts 1).pc + 1 } = _
    rw [h.t1]
  · show (upd s.queues 0 ((s.queues 0).drop 1)) 0 = _
    rw [upd_same, hq]
    rfl
  · show (upd s.regs 3 ((s.queues 0).getD 0 0)) 3 = _
    rw [upd_same, hq, if_neg (by omega)]
    rfl
  · rw [htr, List.length_append, h.tr]; simp; omega
  · rw [htr, level_snoc, h.lv, if_neg (by simp)]; omega
  · intro k hk
    rw [htr] at hk ⊢
    rw [List.length_append] at hk
    by_cases hk2 : k ≤ s.trace.length
    · rw [List.take_append_of_le_length hk2]
      exact h.ok k hk2
    · rw [List.take_of_length_le (by rw [List.length_append]; simp at hk ⊢; omega), level_snoc, h.lv, if_neg (by simp)]; omega
  · rw [htr, List.length_append]; rfl
/-- What a run comes to. -/
theorem queues_end {n room : Nat} (h1 : 1 ≤ n) (h2 : n ≤ 100) (h3 : 1 ≤ room) (picks : List Nat) : ∃ s, all picks 65536 (begin_ (qTasks n) room) = s ∧ s.n = 2 ∧ s.trace.length = 2 * n ∧ s.regs 3 = ((n - 1 : Nat) : Int) ∧ how s (s.ts 0) = 1 ∧ how s (s.ts 1) = 1 ∧ ∀ k, k ≤ s.trace.length → 0 ≤ level (s.trace.take k) ∧ level (s.trace.take k) ≤ room := by
  have h0 : QI n room 0 0 (begin_ (qTasks n) room) := ⟨rfl, rfl, rfl, rfl, by omega, rfl, rfl, rfl, rfl, fun k hk => by
    have : k = 0 := by simpa [begin_] using hk
    subst this
    show 0 ≤ level [] ∧ level [] ≤ _
    simp [level]⟩
  obtain ⟨⟨p, t, h⟩, hr⟩ := all_end (Inv := fun s => ∃ p t, QI n room p t s) (B := 2 * n) picks (fun s i ⟨p, t, h⟩ hi hh => by
    have hl := h.le
    rw [h.sn] at hi
    match i, hi, hh with
    | 0, _, hh =>
      rw [h.how0] at hh
      by_cases e : p = n
      · rw [if_pos e] at hh; omega
      · rw [if_neg e] at hh
        by_cases e2 : p = t + room
        · rw [if_pos e2] at hh; omega
        · have := h.put (by omega) (by omega)
          exact ⟨⟨_, _, this.1⟩, this.2⟩
    | 1, _, hh =>
      rw [h.how1] at hh
      by_cases e : t = n
      · rw [if_pos e] at hh; omega
      · rw [if_neg e] at hh
        by_cases e2 : p = t
        · rw [if_pos e2] at hh; omega
        · have := h.take (by omega) (by omega)
          exact ⟨⟨_, _, this.1⟩, this.2⟩) (fun s ⟨p, t, h⟩ => by have := h.le; rw [h.tr]; omega) 65536 _ ⟨0, 0, h0⟩ (by omega)
  refine ⟨_, rfl, h.sn, ?_⟩
  generalize all picks 65536 (begin_ (qTasks n) room) = s at h hr ⊢
  have hl := h.le
  have hn0 : how s (s.ts 0) ≠ 3 := fun e => by
    have : 0 ∈ ready s := rdy_mem.2 ⟨by rw [h.sn]; omega, e⟩
    rw [hr] at this; cases this
  have hn1 : how s (s.ts 1) ≠ 3 := fun e => by
    have : 1 ∈ ready s := rdy_mem.2 ⟨by rw [h.sn]; omega, e⟩
    rw [hr] at this; cases this
  have e0 := h.how0
  have e1 := h.how1
  have ht : t = n := by
    by_cases c : t = n
    · exact c
    · rw [if_neg c] at e1
      by_cases c2 : p = t
      · rw [if_neg (by omega), if_neg (by omega)] at e0; exact absurd e0 hn0
      · rw [if_neg c2] at e1; exact absurd e1 hn1
  have hp : p = n := by omega
  subst hp
  subst ht
  refine ⟨by rw [h.tr]; omega, by rw [h.r3, if_neg (by omega)], by rw [e0, if_pos rfl], by rw [e1, if_pos rfl], h.ok⟩
end Go.Proofs.Ytompelilflckkaa
/-
  SchedLocks in plain words: each adds so often, with the lock: nothing is lost.
-/
namespace Go.Proofs.Ytompelilflckkaa
open Go.RowKit Go.Fl

def lRound (y : Bool) (i : Nat) : List A := [⟨1, 2, 0, 0⟩, ⟨9, 0, 1, 0⟩] ++ (if y = true then [⟨11, 0, 0, 0⟩] else []) ++ [⟨8, 1, 0, (i : Int) + 1⟩, ⟨9, 1, 0, 0⟩, ⟨2, 2, 0, 0⟩]
def lTask (y : Bool) (i : Nat) : Nat → List A
  | 0 => []
  | k + 1 => lTask y i k ++ lRound y i
def lTasks (y : Bool) (n times : Nat) : List (List A) := (List.range n).map fun i => lTask y i times
def lM (y : Bool) : Nat := if y = true then 6 else 5
theorem lRound_len (y : Bool) (i : Nat) : (lRound y i).length = lM y := by cases y <;> rfl
theorem lTask_len (y : Bool) (i : Nat) : ∀ k, (lTask y i k).length = k * lM y
  | 0 => by simp [lTask]
  | k + 1 => by
    simp only [lTask, List.length_append, lRound_len, lTask_len y i k]
    rw [Nat.add_mul, Nat.one_mul]
theorem lM_two (y : Bool) : y = false ∧ lM y = 5 ∨ y = true ∧ lM y = 6 := by cases y <;> simp [lM]
theorem lTask_at (y : Bool) (i : Nat) : ∀ (k r o : Nat), r < k → o < lM y → (lTask y i k).getD (r * lM y + o) A.none = (lRound y i).getD o A.none
  | 0, r, o, h, _ => absurd h (Nat.not_lt_zero _)
  | k + 1, r, o, h, ho => by
    have hl := lTask_len y i k
    have hrl := lRound_len y i
    simp only [lTask]
    by_cases hr : r < k
    · have ih := lTask_at y i k r o hr ho
      have h1 : (r + 1) * lM y ≤ k * lM y := Nat.mul_le_mul_right _ hr
      rw [Nat.add_mul, Nat.one_mul] at h1
      rw [List.getD_eq_getElem?_getD] at ih ⊢
      rw [List.getElem?_append_left (by omega)]
      exact ih
    · obtain rfl : r = k := by omega
      rw [List.getD_eq_getElem?_getD, List.getElem?_append_right (by omega), hl, Nat.add_sub_cancel_left, List.getD_eq_getElem?_getD]
def sumL : Nat → (Nat → Nat) → Nat
  | 0, _ => 0
  | n + 1, c => sumL n c + (n + 1) * c n
def totL : Nat → (Nat → Nat) → Nat
  | 0, _ => 0
  | n + 1, c => totL n c + c n
theorem sumL_far {n i : Nat} (c : Nat → Nat) (v : Nat) (h : n ≤ i) : sumL n (upd c i v) = sumL n c := by
  induction n with
  | zero => rfl
  | succ n ih =>
    simp only [sumL]
    rw [ih (by omega), upd_ne _ _ _ _ (by omega)]
theorem totL_far {n i : Nat} (c : Nat → Nat) (v : Nat) (h : n ≤ i) : totL n (upd c i v) = totL n c := by
  induction n with
  | zero => rfl
  | succ n ih =>
    simp only [totL]
    rw [ih (by omega), upd_ne _ _ _ _ (by omega)]
theorem sumL_upd {n i : Nat} (c : Nat → Nat) (h : i < n) : sumL n (upd c i (c i + 1)) = sumL n c + (i + 1) := by
  induction n with
  | zero => omega
  | succ n ih =>
    simp only [sumL]
    by_cases hi : i = n
    · subst hi
      rw [sumL_far c _ (Nat.le_refl _), upd_same, Nat.mul_add, Nat.mul_one]; omega
    · rw [ih (by omega), upd_ne _ _ _ _ (fun e => hi e.symm)]; omega
theorem totL_upd {n i : Nat} (c : Nat → Nat) (h : i < n) : totL n (upd c i (c i + 1)) = totL n c + 1 := by
  induction n with
  | zero => omega
  | succ n ih =>
    simp only [totL]
    by_cases hi : i = n
    · subst hi
      rw [totL_far c _ (Nat.le_refl _), upd_same]; omega
    · rw [ih (by omega), upd_ne _ _ _ _ (fun e => hi e.symm)]; omega
theorem sumL_le {n t : Nat} {c : Nat → Nat} (h : ∀ i, i < n → c i ≤ t) : sumL n c ≤ n * (n * t) := by
  have key : ∀ m, m ≤ n → sumL m c ≤ m * (n * t) := by
    intro m
    induction m with
    | zero => intro _; simp [sumL]
    | succ m ih =>
      intro hm
      have := ih (by omega)
      have h2 : (m + 1) * c m ≤ n * t := Nat.mul_le_mul hm (h m (by omega))
      simp only [sumL]
      rw [Nat.add_mul m 1 (n * t), Nat.one_mul]
      omega
  exact key n (Nat.le_refl _)
theorem totL_le {n t : Nat} {c : Nat → Nat} (h : ∀ i, i < n → c i ≤ t) : totL n c ≤ n * t := by
  induction n with
  | zero => simp [totL]
  | succ n ih =>
    have := ih (fun i hi => h i (by omega))
    have h2 := h n (by omega)
    simp only [totL]
    rw [Nat.add_mul, Nat.one_mul]
    omega
theorem sumL_all {n t : Nat} {c : Nat → Nat} (h : ∀ i, i < n → c i = t) : sumL n c * 2 = t * n * (n + 1) := by
  induction n with
  | zero => simp [sumL]
  | succ n ih =>
    have := ih (fun i hi => h i (by omega))
    simp only [sumL]
    rw [h n (by omega), Nat.add_mul, this]
    rw [Nat.mul_succ t n]
    simp only [Nat.mul_add, Nat.add_mul, Nat.mul_one, Nat.one_mul]
    have : n * t = t * n := Nat.mul_comm _ _
    omega
/-- c i rounds are done; o is where the holder h stands, 0 without one. -/
structure LI (y : Bool) (n times : Nat) (c : Nat → Nat) (h o : Nat) (s : S) : Prop where
  sn : s.n = n
  ts : ∀ i, i < n → s.ts i = ⟨lTask y i times, c i * lM y + (if i = h then o else 0), -1, 0, false, 0⟩
  ho : o < lM y ∧ (o ≠ 0 → h < n ∧ c h < times)
  le : ∀ i, i < n → c i ≤ times
  lk : s.locks 2 = if o = 0 then -1 else (h : Int)
  r0 : s.regs 0 = ((sumL n c + (if o = lM y - 1 then h + 1 else 0) : Nat) : Int)
  r1 : 2 ≤ o → s.regs 1 = ((sumL n c + (if lM y - 2 ≤ o then h + 1 else 0) : Nat) : Int)
  tr : s.trace.length = lM y * totL n c + o
section
variable {y : Bool} {n times : Nat} {c : Nat → Nat} {h o : Nat} {s : S}
theorem LI.act (H : LI y n times c h o s) {i : Nat} (hi : i < n) (hc : c i < times) : (s.ts i).act = (lRound y i).getD (if i = h then o else 0) A.none := by
  rw [H.ts i hi]
  have := H.ho
  exact lTask_at y i times _ _ hc (by split <;> omega)
/-- The holder goes on. -/
theorem LI.on (H : LI y n times c h o s) (h0 : o ≠ 0) (h1 : o + 1 < lM y) {s' : S} (en : s'.n = s.n) (et : s'.ts = upd s.ts h { s.ts h with pc := (s.ts h).pc + 1 }) (el : s'.locks 2 = s.locks 2) (er0 : s'.regs 0 = ((sumL n c + (if o + 1 = lM y - 1 then h + 1 else 0) : Nat) : Int))
    (er1 : s'.regs 1 = ((sumL n c + (if lM y - 2 ≤ o + 1 then h + 1 else 0) : Nat) : Int)) (etr : s'.trace.length = s.trace.length + 1) : LI y n times c h (o + 1) s' := by
  obtain ⟨hh, hc⟩ := H.ho.2 h0
  refine ⟨en.trans H.sn, fun i hi => ?_, ⟨h1, fun _ => ⟨hh, hc⟩⟩, H.le, ?_, er0, fun _ => er1, ?_⟩
  · rw [et]
    by_cases e : i = h
    · subst e
      rw [upd_same, H.ts i hi, if_pos rfl, if_pos rfl]
      rw [Nat.add_assoc]
    · rw [upd_ne _ _ _ _ e, H.ts i hi, if_neg e, if_neg e]
  · rw [el, H.lk, if_neg h0, if_neg (by omega)]
  · rw [etr, H.tr]; omega
theorem LI.step (H : LI y n times c h o s) (hn : n ≤ 7) (ht : times ≤ 8) {i : Nat} (hi : i < s.n) (hh : how s (s.ts i) = 3) : (∃ c' h' o', LI y n times c' h' o' (step s i)) ∧ (step s i).trace.length = s.trace.length + 1 := by
  rw [H.sn] at hi
  have hts := H.ts i hi
  have hle := H.le i hi
  have hpc : (s.ts i).pc < (s.ts i).acts.length := by
    unfold how at hh
    rw [if_neg (by rw [hts]; simp)] at hh
    by_cases e : (s.ts i).acts.length ≤ (s.ts i).pc
    · rw [if_pos e] at hh; omega
    · omega
  have hci : c i < times := by
    rw [hts] at hpc
    have : c i * lM y + (if i = h then o else 0) < times * lM y := by rw [← lTask_len y i times]; exact hpc
    rcases Nat.lt_or_ge (c i) times with e | e
    · exact e
    · have := Nat.mul_le_mul_right (lM y) e
      omega
  have hact := H.act hi hci
  have hsum := sumL_le H.le
  have hb : n * (n * times) ≤ 7 * (7 * 8) := Nat.mul_le_mul hn (Nat.mul_le_mul hn ht)
  by_cases hold : i = h ∧ o ≠ 0
  · obtain ⟨rfl, h0⟩ := hold
    rw [if_pos rfl] at hact
    have hob := H.ho.1
    have hlk := H.lk
    rw [if_neg h0] at hlk
    have hr0 := H.r0
    have hr1 := H.r1
    have hcase : o = 1 ∨ (y = true ∧ o = 2) ∨ o = lM y - 3 ∨ o = lM y - 2 ∨ o = lM y - 1 := by
      rcases lM_two y with ⟨e, e2⟩ | ⟨e, e2⟩ <;> rw [e2] at hob ⊢ <;> simp [e] <;> omega
    have hm : 5 ≤ lM y := by rcases lM_two y with ⟨e, e2⟩ | ⟨e, e2⟩ <;> omega
    rcases hcase with rfl | ⟨ey, rfl⟩ | e | e | e
    · have ha : (s.ts i).act = ⟨9, 0, 1, 0⟩ := by rw [hact]; rfl
      rw [step_copy ha]
      rw [if_neg (by omega)] at hr0
      have ht : (((mark s i).setReg (1 : Int).toNat (s.regs (0 : Int).toNat)).go i).trace.length = s.trace.length + 1 := by show (s.trace ++ [_]).length = _; rw [List.length_append]; rfl
      refine ⟨⟨c, i, 2, H.on h0 (by omega) rfl rfl rfl ?_ ?_ ht⟩, ht⟩
      · rw [if_neg (by omega)]
        show (upd s.regs 1 (s.regs 0)) 0 = _
        rw [upd_ne _ _ _ _ (by omega)]; exact hr0
      · rw [if_neg (by omega)]
        show (upd s.regs 1 (s.regs 0)) 1 = _
        rw [upd_same]; exact hr0
    · have ha : (s.ts i).act = ⟨11, 0, 0, 0⟩ := by rw [hact, ey]; rfl
      have hm6 : lM y = 6 := by rw [ey]; rfl
      rw [step_yield ha]
      rw [if_neg (by omega)] at hr0
      have hr1 := hr1 (by omega)
      rw [if_neg (by omega)] at hr1
      have ht : ((mark s i).go i).trace.length = s.trace.length + 1 := by show (s.trace ++ [_]).length = _; rw [List.length_append]; rfl
      refine ⟨⟨c, i, 3, H.on h0 (by omega) rfl rfl rfl ?_ ?_ ht⟩, ht⟩
      · rw [if_neg (by omega)]; exact hr0
      · rw [if_neg (by omega)]; exact hr1
    · have ha : (s.ts i).act = ⟨8, 1, 0, (i : Int) + 1⟩ := by rw [hact, e]; rcases lM_two y with ⟨ey, e2⟩ | ⟨ey, e2⟩ <;> rw [e2, ey] <;> rfl
      rw [step_add ha]
      rw [if_neg (by omega)] at hr0
      have hr1 := hr1 (by omega)
      rw [if_neg (by omega)] at hr1
      have ht : (((mark s i).setReg (1 : Int).toNat (wrap64 (s.regs (1 : Int).toNat + ((i : Int) + 1)))).go i).trace.length = s.trace.length + 1 := by show (s.trace ++ [_]).length = _; rw [List.length_append]; rfl
      refine ⟨⟨c, i, o + 1, H.on h0 (by omega) rfl rfl rfl ?_ ?_ ht⟩, ht⟩
      · rw [if_neg (by omega)]
        show (upd s.regs 1 (wrap64 (s.regs 1 + ((i : Int) + 1)))) 0 = _
        rw [upd_ne _ _ _ _ (by omega)]; exact hr0
      · rw [if_pos (by omega)]
        show (upd s.regs 1 (wrap64 (s.regs 1 + ((i : Int) + 1)))) 1 = _
        rw [upd_same, hr1]
        unfold wrap64
        omega
    · have ha : (s.ts i).act = ⟨9, 1, 0, 0⟩ := by rw [hact, e]; rcases lM_two y with ⟨ey, e2⟩ | ⟨ey, e2⟩ <;> rw [e2, ey] <;> rfl
      rw [step_copy ha]
      have hr1 := hr1 (by omega)
      rw [if_pos (by omega)] at hr1
      have ht : (((mark s i).setReg (0 : Int).toNat (s.regs (1 : Int).toNat)).go i).trace.length = s.trace.length + 1 := by show (s.trace ++ [_]).length = _; rw [List.length_append]; rfl
      refine ⟨⟨c, i, o + 1, H.on h0 (by omega) rfl rfl rfl ?_ ?_ ht⟩, ht⟩
      · rw [if_pos (by omega)]
        show (upd s.regs 0 (s.regs 1)) 0 = _
        rw [upd_same]; exact hr1
      · rw [if_pos (by omega)]
        show (upd s.regs 0 (s.regs 1)) 1 = _
        rw [upd_ne _ _ _ _ (by omega)]; exact hr1
    · have ha : (s.ts i).act = ⟨2, 2, 0, 0⟩ := by rw [hact, e]; rcases lM_two y with ⟨ey, e2⟩ | ⟨ey, e2⟩ <;> rw [e2, ey] <;> rfl
      rw [step_unlock ha hlk]
      rw [if_pos e] at hr0
      have ht : (((mark s i).setLock (2 : Int).toNat (-1)).go i).trace.length = s.trace.length + 1 := by show (s.trace ++ [_]).length = _; rw [List.length_append]; rfl
      refine ⟨⟨upd c i (c i + 1), i, 0, H.sn, fun j hj => ?_, ⟨by omega, fun e => absurd rfl e⟩, fun j hj => ?_, ?_, ?_, fun e => absurd e (by omega), ?_⟩, ht⟩
      · by_cases ej : j = i
        · subst ej
          rw [if_pos rfl] at hts
          refine (go_to (s := (mark s j).setLock (2 : Int).toNat (-1)) hts).trans ?_
          rw [upd_same, if_pos rfl, Nat.add_mul, Nat.one_mul, show c j * lM y + o + 1 = c j * lM y + lM y + 0 by omega]
        · rw [go_ne _ ej, upd_ne _ _ _ _ ej]
          have := H.ts j hj
          rw [if_neg ej] at this ⊢
          exact this
      · by_cases ej : j = i
        · subst ej; rw [upd_same]; omega
        · rw [upd_ne _ _ _ _ ej]; exact H.le j hj
      · show (upd s.locks 2 (-1)) 2 = _
        rw [upd_same, if_pos rfl]
      · rw [sumL_upd c hi, if_neg (by omega)]
        exact hr0
      · rw [ht, H.tr, totL_upd c hi, Nat.mul_add, Nat.mul_one]; omega
  · have hz : (if i = h then o else 0) = 0 := by
      by_cases e : i = h
      · rw [if_pos e]
        by_cases e2 : o = 0
        · exact e2
        · exact absurd ⟨e, e2⟩ hold
      · rw [if_neg e]
    rw [hz] at hact hts
    have ha : (s.ts i).act = ⟨1, 2, 0, 0⟩ := by rw [hact]; rfl
    have ho0 : o = 0 := by
      by_cases e : o = 0
      · exact e
      · have hlk := H.lk
        rw [if_neg e] at hlk
        unfold how at hh
        rw [if_neg (by rw [hts]; simp), if_neg (by omega), ha, if_pos (.inl ⟨rfl, by show 0 ≤ s.locks 2; omega⟩)] at hh
        omega
    subst ho0
    rw [step_lock ha]
    have hr0 := H.r0
    rw [if_neg (by have := H.ho.1; rcases lM_two y with ⟨_, e2⟩ | ⟨_, e2⟩ <;> omega)] at hr0
    have ht : (((mark s i).setLock (2 : Int).toNat i).go i).trace.length = s.trace.length + 1 := by show (s.trace ++ [_]).length = _; rw [List.length_append]; rfl
    refine ⟨⟨c, i, 1, H.sn, fun j hj => ?_, ⟨by rcases lM_two y with ⟨_, e2⟩ | ⟨_, e2⟩ <;> omega, fun _ => ⟨hi, hci⟩⟩, H.le, ?_, ?_, fun e => absurd e (by omega), ?_⟩, ht⟩
    · by_cases ej : j = i
      · subst ej
        rw [if_pos rfl]
        exact go_to (s := (mark s j).setLock (2 : Int).toNat j) hts
      · rw [go_ne _ ej, if_neg ej]
        have := H.ts j hj
        rw [show (if j = h then 0 else 0) = 0 by split <;> rfl] at this
        exact this
    · show (upd s.locks 2 (i : Int)) 2 = _
      rw [upd_same, if_neg (by omega)]
    · rw [if_neg (by rcases lM_two y with ⟨_, e2⟩ | ⟨_, e2⟩ <;> omega)]
      exact hr0
    · rw [ht, H.tr]
theorem LI.stop (H : LI y n times c h o s) (hr : ready s = []) : o = 0 ∧ ∀ i, i < n → c i = times := by
  have hno : ∀ i, i < n → how s (s.ts i) ≠ 3 := fun i hi e => by
    have : i ∈ ready s := rdy_mem.2 ⟨by rw [H.sn]; exact hi, e⟩
    rw [hr] at this; cases this
  have ho0 : o = 0 := by
    by_cases e : o = 0
    · exact e
    · exfalso
      obtain ⟨hh, hc⟩ := H.ho.2 e
      have ha := H.act hh hc
      rw [if_pos rfl] at ha
      have hob := H.ho.1
      have hk : (s.ts h).act.kind ≠ 1 ∧ (s.ts h).act.kind ≠ 3 ∧ (s.ts h).act.kind ≠ 6 ∧ (s.ts h).act.kind ≠ 7 := by
        rw [ha]
        rcases lM_two y with ⟨ey, e2⟩ | ⟨ey, e2⟩ <;> rw [e2] at hob <;> rw [ey]
        · obtain rfl | rfl | rfl | rfl : o = 1 ∨ o = 2 ∨ o = 3 ∨ o = 4 := by omega
          all_goals exact ⟨by simp [lRound], by simp [lRound], by simp [lRound], by simp [lRound]⟩
        · obtain rfl | rfl | rfl | rfl | rfl : o = 1 ∨ o = 2 ∨ o = 3 ∨ o = 4 ∨ o = 5 := by omega
          all_goals exact ⟨by simp [lRound], by simp [lRound], by simp [lRound], by simp [lRound]⟩
      refine hno h hh ?_
      have hts := H.ts h hh
      unfold how
      rw [if_neg (by rw [hts]; simp), if_neg ?_, if_neg (fun k => k.elim (fun k => hk.1 k.1) (fun k => hk.2.1 k.1)), if_neg (fun k => hk.2.1 k.1), if_neg (fun k => hk.2.2.1 k.1), if_neg (fun k => hk.2.2.2 k.1)]
      rw [hts, if_pos rfl]
      show ¬ (lTask y h times).length ≤ c h * lM y + o
      rw [lTask_len]
      have := Nat.mul_le_mul_right (lM y) hc
      rw [Nat.succ_eq_add_one, Nat.add_mul, Nat.one_mul] at this
      omega
  refine ⟨ho0, fun i hi => ?_⟩
  subst ho0
  by_cases e : c i = times
  · exact e
  · exfalso
    have hc : c i < times := by have := H.le i hi; omega
    have ha := H.act hi hc
    have hz : (if i = h then 0 else 0) = 0 := by split <;> rfl
    rw [hz] at ha
    have ha : (s.ts i).act = ⟨1, 2, 0, 0⟩ := by rw [ha]; rfl
    have hts := H.ts i hi
    rw [hz] at hts
    have hlk := H.lk
    rw [if_pos rfl] at hlk
    refine hno i hi ?_
    unfold how
    rw [if_neg (by rw [hts]; simp), if_neg ?_, ha]
    · dsimp only
      rw [if_neg (by rintro (⟨_, k⟩ | ⟨k, _⟩) <;> first | omega | (have : (0 : Int) ≤ s.locks 2 := k; omega)), if_neg (by omega), if_neg (by omega), if_neg (by omega)]
    · rw [hts]
      show ¬ (lTask y i times).length ≤ c i * lM y + 0
      rw [lTask_len]
      have := Nat.mul_le_mul_right (lM y) hc
      rw [Nat.succ_eq_add_one, Nat.add_mul, Nat.one_mul] at this
      rcases lM_two y with ⟨ey, e2⟩ | ⟨ey, e2⟩ <;> omega
theorem LI.bound (H : LI y n times c h o s) (hn : n ≤ 7) (ht : times ≤ 8) : s.trace.length ≤ 400 := by
  have h1 := totL_le H.le
  have h2 : n * times ≤ 7 * 8 := Nat.mul_le_mul hn ht
  have h3 := H.tr
  have h4 := H.ho.1
  rcases lM_two y with ⟨ey, e2⟩ | ⟨ey, e2⟩ <;> rw [e2] at h3 h4 <;> omega
end
theorem lTasks_len (y : Bool) (n times : Nat) : (lTasks y n times).length = n := by simp [lTasks]
theorem locks_end (y : Bool) {n times : Nat} (h2 : n ≤ 7) (h4 : times ≤ 8) (picks : List Nat) : ∃ s, all picks 65536 (begin_ (lTasks y n times) 1) = s ∧ s.n = n ∧ (∀ i, i < n → how s (s.ts i) = 1) ∧ ∃ q : Nat, s.regs 0 = (q : Int) ∧ q * 2 = times * n * (n + 1) := by
  have h0 : LI y n times (fun _ => 0) 0 0 (begin_ (lTasks y n times) 1) := by
    have hz : ∀ m, sumL m (fun _ => 0) = 0 ∧ totL m (fun _ => 0) = 0 := fun m => by
      induction m with
      | zero => exact ⟨rfl, rfl⟩
      | succ m ih => simp [sumL, totL, ih.1, ih.2]
    refine ⟨lTasks_len y n times, fun i hi => ?_, ⟨by rcases lM_two y with ⟨_, e⟩ | ⟨_, e⟩ <;> omega, fun e => absurd rfl e⟩, fun _ _ => Nat.zero_le _, rfl, ?_, fun e => absurd e (by omega), ?_⟩
    · show T.mk ((lTasks y n times).getD i []) 0 (-1) 0 false 0 = _
      rw [List.getD_eq_getElem?_getD, List.getElem?_eq_getElem (by rw [lTasks_len]; exact hi)]
      simp [lTasks]
    · rw [(hz n).1, if_neg (by rcases lM_two y with ⟨_, e⟩ | ⟨_, e⟩ <;> omega)]
      rfl
    · rw [(hz n).2]
      rfl
  obtain ⟨⟨c, h, o, H⟩, hr⟩ := all_end (Inv := fun s => ∃ c h o, LI y n times c h o s) (B := 400) picks (fun s i ⟨c, h, o, H⟩ hi hh => H.step h2 h4 hi hh) (fun s ⟨c, h, o, H⟩ => H.bound h2 h4) 65536 _ ⟨_, _, _, h0⟩ (by omega)
  refine ⟨_, rfl, H.sn, ?_⟩
  generalize all picks 65536 (begin_ (lTasks y n times) 1) = s at H hr ⊢
  obtain ⟨ho, hc⟩ := H.stop hr
  subst ho
  refine ⟨fun i hi => ?_, _, H.r0, ?_⟩
  · unfold how
    have hts := H.ts i hi
    rw [if_neg (by rw [hts]; simp), if_pos]
    rw [hts]
    show (lTask y i times).length ≤ c i * lM y + _
    rw [lTask_len, hc i hi]
    omega
  · rw [if_neg (by rcases lM_two y with ⟨_, e⟩ | ⟨_, e⟩ <;> omega)]
    exact sumL_all hc
end Go.Proofs.Ytompelilflckkaa
/-
  SchedConds in plain words: all that wait go on: what is kept.
-/
namespace Go.Proofs.Ytompelilflckkaa
open Go.RowKit Go.Fl

def cWait : List A := [⟨1, 0, 0, 0⟩, ⟨6, 1, 0, 1⟩, ⟨3, 2, 0, 0⟩, ⟨8, 3, 0, 1⟩, ⟨2, 0, 0, 0⟩]
def cTakes (k : Nat) : List A := List.replicate k ⟨7, 1, 0, 0⟩
def cSigs (cast : Bool) (k : Nat) : List A := List.replicate k ⟨if cast = true then 5 else 4, 2, 0, 0⟩
def cS (cast : Bool) (n : Nat) : Nat := if cast = true then 1 else n
def cWake (cast : Bool) (n : Nat) : List A := cTakes n ++ [⟨1, 0, 0, 0⟩] ++ cSigs cast (cS cast n) ++ [⟨2, 0, 0, 0⟩]
def cTasks (cast : Bool) (n : Nat) : List (List A) := List.replicate n cWait ++ [cWake cast n]
theorem cWake_len (cast : Bool) (n : Nat) : (cWake cast n).length = n + cS cast n + 2 := by
  simp [cWake, cTakes, cSigs]; omega
theorem cWake_take {cast : Bool} {n k : Nat} (h : k < n) : (cWake cast n).getD k A.none = ⟨7, 1, 0, 0⟩ := by
  rw [List.getD_eq_getElem?_getD]
  unfold cWake
  rw [List.getElem?_append_left (by simp [cTakes, cSigs]; omega), List.getElem?_append_left (by simp [cTakes, cSigs]; omega), List.getElem?_append_left (by simp [cTakes]; omega)]
  unfold cTakes
  rw [List.getElem?_replicate, if_pos h]; rfl
theorem cWake_lock (cast : Bool) (n : Nat) : (cWake cast n).getD n A.none = ⟨1, 0, 0, 0⟩ := by
  rw [List.getD_eq_getElem?_getD]
  unfold cWake
  rw [List.getElem?_append_left (by simp [cTakes, cSigs]), List.getElem?_append_left (by simp [cTakes, cSigs]), List.getElem?_append_right (by simp [cTakes])]
  simp [cTakes]
theorem cWake_sig {cast : Bool} {n k : Nat} (h1 : n + 1 ≤ k) (h2 : k ≤ n + cS cast n) : (cWake cast n).getD k A.none = ⟨if cast = true then 5 else 4, 2, 0, 0⟩ := by
  rw [List.getD_eq_getElem?_getD]
  unfold cWake
  rw [List.getElem?_append_left (by simp [cTakes, cSigs]; omega), List.getElem?_append_right (by simp [cTakes]; omega)]
  unfold cSigs
  rw [List.getElem?_replicate, if_pos (by simp [cTakes]; omega)]; rfl
theorem cWake_unlock (cast : Bool) (n : Nat) : (cWake cast n).getD (n + 1 + cS cast n) A.none = ⟨2, 0, 0, 0⟩ := by
  rw [List.getD_eq_getElem?_getD]
  unfold cWake
  rw [List.getElem?_append_right (by simp [cTakes, cSigs]; omega)]
  rw [show n + 1 + cS cast n - (cTakes n ++ [(⟨1, 0, 0, 0⟩ : A)] ++ cSigs cast (cS cast n)).length = 0 by simp [cTakes, cSigs]; omega]
  rfl
def hold (p : Nat) : Prop := p = 1 ∨ p = 2 ∨ p = 5 ∨ p = 6
def pcOf : Nat → Nat
  | 0 => 0 | 1 => 1 | 2 => 2 | 3 => 2 | 4 => 2 | 5 => 3 | 6 => 4 | _ => 5
def waitOf : Nat → Int
  | 3 => 1 | 4 => 2 | _ => 0
def cnt (t : Nat) : Nat → (Nat → Nat) → Nat
  | 0, _ => 0
  | n + 1, f => cnt t n f + if t ≤ f n then 1 else 0
theorem cnt_le (t n : Nat) (f : Nat → Nat) : cnt t n f ≤ n := by
  induction n with
  | zero => exact Nat.le_refl _
  | succ n ih => simp only [cnt]; split <;> omega
theorem cnt_congr {t n : Nat} {f g : Nat → Nat} (h : ∀ i, i < n → (t ≤ f i ↔ t ≤ g i)) : cnt t n f = cnt t n g := by
  induction n with
  | zero => rfl
  | succ n ih =>
    simp only [cnt]
    rw [ih (fun i hi => h i (by omega))]
    have := h n (by omega)
    by_cases e : t ≤ f n
    · rw [if_pos e, if_pos (this.1 e)]
    · rw [if_neg e, if_neg (fun k => e (this.2 k))]
theorem cnt_upd (t : Nat) {n i : Nat} (f : Nat → Nat) (h : i < n) : cnt t n (upd f i (f i + 1)) = cnt t n f + if f i + 1 = t then 1 else 0 := by
  induction n with
  | zero => omega
  | succ n ih =>
    simp only [cnt]
    by_cases e : i = n
    · subst e
      rw [cnt_congr (g := f) (fun j hj => by rw [upd_ne _ _ _ _ (by omega)]), upd_same]
      split <;> split <;> split <;> omega
    · rw [ih (by omega), upd_ne _ _ _ _ (fun k => e k.symm)]; omega
theorem cnt_full {t n : Nat} {f : Nat → Nat} (h : cnt t n f = n) : ∀ i, i < n → t ≤ f i := by
  induction n with
  | zero => intro i hi; omega
  | succ n ih =>
    simp only [cnt] at h
    have := cnt_le t n f
    intro i hi
    by_cases e : t ≤ f n
    · rw [if_pos e] at h
      by_cases ei : i = n
      · rw [ei]; exact e
      · exact ih (by omega) i (by omega)
    · rw [if_neg e] at h; omega
theorem cnt_all {t n : Nat} {f : Nat → Nat} (h : ∀ i, i < n → t ≤ f i) : cnt t n f = n := by
  induction n with
  | zero => rfl
  | succ n ih =>
    simp only [cnt]
    rw [ih (fun i hi => h i (by omega)), if_pos (h n (by omega))]
theorem totL_mono {n : Nat} {f g : Nat → Nat} (h : ∀ i, i < n → f i ≤ g i) : totL n f ≤ totL n g := by
  induction n with
  | zero => exact Nat.le_refl _
  | succ n ih =>
    have h1 := ih (fun i hi => h i (by omega))
    have h2 := h n (by omega)
    simp only [totL]; omega
/-- ph i: how far one who waits is; k: how far the waker is. -/
structure CI (cast : Bool) (n : Nat) (ph : Nat → Nat) (k : Nat) (s : S) : Prop where
  sn : s.n = n + 1
  rm : s.room = 16
  ts : ∀ i, i < n → s.ts i = ⟨cWait, pcOf (ph i), -1, waitOf (ph i), false, 0⟩
  tw : s.ts n = ⟨cWake cast n, k, -1, 0, false, 0⟩
  lkA : ∀ i, i < n → (hold (ph i) ↔ s.locks 0 = i)
  lkW : n + 1 ≤ k ∧ k ≤ n + 1 + cS cast n ↔ s.locks 0 = n
  lkF : s.locks 0 = -1 ∨ ∃ i : Nat, i ≤ n ∧ s.locks 0 = i
  q : (s.queues 1).length + min k n = cnt 2 n ph
  mem : ∀ i, i ∈ s.conds 2 ↔ i < n ∧ ph i = 3
  nd : (s.conds 2).Nodup
  ln : k ≤ n → (s.conds 2).length ≤ cnt 3 n ph
  p1 : k ≤ n → ∀ i, i < n → ph i ≤ 3
  p2 : n + 1 ≤ k → ∀ i, i < n → 3 ≤ ph i
  p7 : ∀ i, i < n → ph i ≤ 7
  sg : n + 1 ≤ k → if cast = true then (n + 2 ≤ k → s.conds 2 = []) else (s.conds 2).length ≤ 2 * n + 1 - k
  r3 : s.regs 3 = (cnt 6 n ph : Int)
  kle : k ≤ n + cS cast n + 2
  tr : s.trace.length ≤ totL n ph + k
section
variable {cast : Bool} {n k : Nat} {ph : Nat → Nat} {s : S}
theorem hold_on {p : Nat} (h7 : p ≤ 6) : hold (p + 1) ↔ p = 0 ∨ p = 1 ∨ p = 4 ∨ p = 5 := by unfold hold; omega
/-- One who waits goes on. -/
theorem CI.on (H : CI cast n ph k s) {i : Nat} (hi : i < n) (h6 : ph i ≤ 6) (h3 : ph i ≠ 3) (hlk : hold (ph i) ∨ s.locks 0 = -1) {s' : S} (en : s'.n = s.n) (er : s'.room = s.room) (et : s'.ts = upd s.ts i ⟨cWait, pcOf (ph i + 1), -1, waitOf (ph i + 1), false, 0⟩)
    (el1 : hold (ph i + 1) → s'.locks 0 = i) (el2 : ¬ hold (ph i + 1) → s'.locks 0 = -1) (eq : (s'.queues 1).length = (s.queues 1).length + if ph i + 1 = 2 then 1 else 0) (ec : s'.conds 2 = s.conds 2 ++ if ph i + 1 = 3 then [i] else [])
    (e3 : s'.regs 3 = s.regs 3 + if ph i + 1 = 6 then 1 else 0) (etr : s'.trace.length = s.trace.length + 1) : CI cast n (upd ph i (ph i + 1)) k s' := by
  have hi' : ∀ j, j < n → j ≠ i → ¬ hold (ph j) := fun j hj hne hh => by
    have h1 := (H.lkA j hj).1 hh
    rcases hlk with h | h
    · have h2 := (H.lkA i hi).1 h
      omega
    · omega
  have hw : ¬ (n + 1 ≤ k ∧ k ≤ n + 1 + cS cast n) := fun hh => by
    have h1 := H.lkW.1 hh
    rcases hlk with h | h
    · have h2 := (H.lkA i hi).1 h
      omega
    · omega
  have hl' : s'.locks 0 = -1 ∨ s'.locks 0 = i := by
    by_cases e : hold (ph i + 1)
    · exact .inr (el1 e)
    · exact .inl (el2 e)
  have hmem := H.mem
  refine ⟨en.trans H.sn, er.trans H.rm, fun j hj => ?_, ?_, fun j hj => ?_, ⟨fun h => absurd h hw, fun h => by omega⟩, ?_, ?_, fun j => ?_, ?_, fun hk => ?_, fun hk j hj => ?_, fun hk j hj => ?_, fun j hj => ?_, fun hk => ?_, ?_, H.kle, ?_⟩
  · rw [et]
    by_cases e : j = i
    · subst e; rw [upd_same, upd_same]
    · rw [upd_ne _ _ _ _ e, upd_ne _ _ _ _ e]; exact H.ts j hj
  · rw [et, upd_ne _ _ _ _ (by omega)]; exact H.tw
  · by_cases e : j = i
    · subst e
      rw [upd_same]
      exact ⟨el1, fun h => by
        by_cases e : hold (ph j + 1)
        · exact e
        · have := el2 e; omega⟩
    · rw [upd_ne _ _ _ _ e]
      exact ⟨fun h => absurd h (hi' j hj e), fun h => by omega⟩
  · rcases hl' with h | h
    · exact .inl h
    · exact .inr ⟨i, by omega, h⟩
  · rw [eq, cnt_upd 2 ph hi, ← H.q]; omega
  · rw [ec, List.mem_append]
    by_cases e : j = i
    · subst e
      rw [upd_same]
      by_cases e3 : ph j + 1 = 3
      · rw [if_pos e3]; simp [hi, e3]
      · rw [if_neg e3]
        simp [e3]
        intro hm
        exact h3 ((hmem j).1 hm).2
    · rw [upd_ne _ _ _ _ e, hmem j]
      split
      · simp [e]
      · simp
  · rw [ec]
    split
    · rw [List.nodup_append]
      refine ⟨H.nd, by simp, fun a ha b hb => ?_⟩
      obtain rfl : b = i := by simpa using hb
      rintro rfl
      exact h3 ((hmem a).1 ha).2
    · rw [List.append_nil]; exact H.nd
  · have := H.ln hk
    rw [ec, cnt_upd 3 ph hi, List.length_append]
    split
    · rename_i e; simp; omega
    · simp; omega
  · by_cases e : j = i
    · subst e; rw [upd_same]; have := H.p1 hk j hj; omega
    · rw [upd_ne _ _ _ _ e]; exact H.p1 hk j hj
  · by_cases e : j = i
    · subst e; rw [upd_same]; have := H.p2 hk j hj; omega
    · rw [upd_ne _ _ _ _ e]; exact H.p2 hk j hj
  · by_cases e : j = i
    · subst e; rw [upd_same]; omega
    · rw [upd_ne _ _ _ _ e]; exact H.p7 j hj
  · have h5 := H.p2 hk i hi
    have e0 : (if ph i + 1 = 3 then [i] else []) = [] := if_neg (by omega)
    rw [ec, e0, List.append_nil]
    exact H.sg hk
  · rw [e3, H.r3, cnt_upd 6 ph hi]
    split <;> omega
  · rw [etr, totL_upd ph hi]
    have := H.tr
    omega
end
theorem wakeAll_rest (s : S) (l : List Nat) : (s.wakeAll l).room = s.room ∧ (s.wakeAll l).locks = s.locks ∧ (s.wakeAll l).queues = s.queues ∧ (s.wakeAll l).regs = s.regs := by
  induction l generalizing s with
  | nil => exact ⟨rfl, rfl, rfl, rfl⟩
  | cons i l ih => exact ih _
theorem wakeAll_ts (s : S) (l : List Nat) (j : Nat) : (s.wakeAll l).ts j = if j ∈ l then { s.ts j with wait := 2 } else s.ts j := by
  induction l generalizing s with
  | nil => simp [S.wakeAll]
  | cons i l ih =>
    show ((s.setT i { s.ts i with wait := 2 }).wakeAll l).ts j = _
    rw [ih]
    by_cases e : j = i
    · subst e
      rw [show (s.setT j { s.ts j with wait := 2 }).ts j = { s.ts j with wait := 2 } from upd_same _ _ _]
      simp
    · rw [show (s.setT i { s.ts i with wait := 2 }).ts j = s.ts j from upd_ne _ _ _ _ e]
      simp [e]
end Go.Proofs.Ytompelilflckkaa
/-
  SchedSplit in plain words: a run of more steps begins with that of fewer; who was picked was ready; where nobody is ready no pick changes anything.
-/
namespace Go.Proofs.Ytompelilflckkaa
open Go.RowKit Go.Fl

theorem doM_trace {s s2 : S} {i : Nat} (h : doM s i = .ok s2) : s2.trace = s.trace := by
  unfold doM at h
  dsimp only at h
  by_cases hk : (s.ts i).act.kind = 1
  · rw [if_pos hk] at h
    injection h with h; subst h; rfl
  rw [if_neg hk] at h; clear hk
  by_cases hk : (s.ts i).act.kind = 2
  · rw [if_pos hk] at h
    by_cases hl : s.locks (s.ts i).act.a.toNat = i
    · rw [if_pos hl] at h; injection h with h; subst h; rfl
    · rw [if_neg hl] at h; cases h
  rw [if_neg hk] at h; clear hk
  by_cases hk : (s.ts i).act.kind = 3
  · rw [if_pos hk] at h
    by_cases hw : (s.ts i).wait = 0
    · rw [if_pos hw] at h
      by_cases hl : s.locks (s.ts i).act.b.toNat = i
      · rw [if_pos hl] at h; injection h with h; subst h; rfl
      · rw [if_neg hl] at h; cases h
    · rw [if_neg hw] at h; injection h with h; subst h; rfl
  rw [if_neg hk] at h; clear hk
  by_cases hk : (s.ts i).act.kind = 4
  · rw [if_pos hk] at h
    injection h with h; subst h; exact wakeAll_trace _ _
  rw [if_neg hk] at h; clear hk
  by_cases hk : (s.ts i).act.kind = 5
  · rw [if_pos hk] at h
    injection h with h; subst h; exact wakeAll_trace _ _
  rw [if_neg hk] at h; clear hk
  by_cases hk : (s.ts i).act.kind = 6
  · rw [if_pos hk] at h
    injection h with h; subst h; rfl
  rw [if_neg hk] at h; clear hk
  by_cases hk : (s.ts i).act.kind = 7
  · rw [if_pos hk] at h
    injection h with h; subst h; rfl
  rw [if_neg hk] at h; clear hk
  by_cases hk : (s.ts i).act.kind = 8
  · rw [if_pos hk] at h
    injection h with h; subst h; rfl
  rw [if_neg hk] at h; clear hk
  by_cases hk : (s.ts i).act.kind = 9
  · rw [if_pos hk] at h
    injection h with h; subst h; rfl
  rw [if_neg hk] at h; clear hk
  by_cases hk : (s.ts i).act.kind = 10
  · rw [if_pos hk] at h
    injection h with h; subst h
    by_cases hz : s.regs (s.ts i).act.a.toNat = 0
    · rw [if_pos hz]; rfl
    · rw [if_neg hz]; rfl
  rw [if_neg hk] at h; clear hk
  by_cases hk : (s.ts i).act.kind = 12
  · rw [if_pos hk] at h
    cases h
  rw [if_neg hk] at h; clear hk
  by_cases hk : (s.ts i).act.kind = 13
  · rw [if_pos hk] at h
    injection h with h; subst h; rfl
  rw [if_neg hk] at h; clear hk
  injection h with h; subst h; rfl
theorem step_tr (s : S) (i : Nat) : (step s i).trace = s.trace ++ [(i, (s.ts i).pc)] := by
  unfold step
  cases h : doM (mark s i) i with
  | ok s2 => exact doM_trace h
  | error n =>
    show (caught (mark s i) i n).trace = _
    unfold caught
    split <;> rfl
theorem all_pre (picks : List Nat) : ∀ (k : Nat) (s : S), ∃ t, (all picks k s).trace = s.trace ++ t ∧ t.length ≤ k ∧ (t.length < k → ready (all picks k s) = [] ∧ (t = [] → all picks k s = s))
  | 0, s => ⟨[], by rw [List.append_nil]; rfl, Nat.le_refl _, fun h => absurd h (Nat.not_lt_zero _)⟩
  | k + 1, s => by
    by_cases hr : ready s = []
    · rw [allStop hr]
      exact ⟨[], (List.append_nil _).symm, Nat.zero_le _, fun _ => ⟨hr, fun _ => rfl⟩⟩
    · rw [allGo hr]
      obtain ⟨t, h1, h2, h3⟩ := all_pre picks k (step s (next s (ready s) picks))
      refine ⟨(next s (ready s) picks, (s.ts (next s (ready s) picks)).pc) :: t, ?_, by simpa using h2, fun h => ⟨(h3 (by simpa using h)).1, fun e => by cases e⟩⟩
      rw [h1, step_tr, List.append_assoc]; rfl
theorem all_add (picks : List Nat) (b : Nat) : ∀ (a : Nat) (s : S), all picks (a + b) s = all picks b (all picks a s)
  | 0, s => by rw [Nat.zero_add]; rfl
  | a + 1, s => by
    by_cases hr : ready s = []
    · rw [allStop hr, allStop hr, allStop hr]
    · rw [show a + 1 + b = (a + b) + 1 by omega, allGo hr, allGo hr, all_add picks b a]
theorem next_agree {s : S} {l p q : List Nat} (h : p[s.trace.length]? = q[s.trace.length]?) : next s l p = next s l q := by
  unfold next
  by_cases hp : s.trace.length < p.length
  · rw [List.getElem?_eq_getElem hp] at h
    have hq : s.trace.length < q.length := by
      by_cases e : s.trace.length < q.length
      · exact e
      · rw [List.getElem?_eq_none (by omega)] at h; cases h
    rw [List.getElem?_eq_getElem hq] at h
    injection h with h
    rw [dif_pos hp, dif_pos hq, h]
  · rw [List.getElem?_eq_none (by omega)] at h
    have hq : ¬ s.trace.length < q.length := fun e => by
      rw [List.getElem?_eq_getElem e] at h; cases h
    rw [dif_neg hp, dif_neg hq]
theorem all_agree {p q : List Nat} : ∀ (k : Nat) (s : S), (∀ j, s.trace.length ≤ j → j < s.trace.length + k → p[j]? = q[j]?) → all p k s = all q k s
  | 0, _, _ => rfl
  | k + 1, s, h => by
    by_cases hr : ready s = []
    · rw [allStop hr, allStop hr]
    · rw [allGo hr, allGo hr, next_agree (h _ (Nat.le_refl _) (by omega))]
      refine all_agree k _ fun j h1 h2 => ?_
      rw [step_tr, List.length_append] at h1 h2
      simp only [List.length_cons, List.length_nil] at h1 h2
      exact h j (by omega) (by omega)
section
variable {s : S} {picks : List Nat} {m : Nat}
/-- A run of fewer steps is the front of one of more. -/
theorem split_cut (h0 : s.trace = []) {cut : Nat} (hc : cut ≤ (all picks m s).trace.length) : (all picks cut s).trace = (all picks m s).trace.take cut ∧ (all picks cut s).trace.length = cut := by
  obtain ⟨t, h1, h2, h3⟩ := all_pre picks m s
  rw [h0, List.nil_append] at h1
  have hm : cut ≤ m := by rw [h1] at hc; omega
  obtain ⟨u, k1, k2, k3⟩ := all_pre picks cut s
  rw [h0, List.nil_append] at k1
  obtain ⟨x, l1, l2, l3⟩ := all_pre picks (m - cut) (all picks cut s)
  rw [← all_add, show cut + (m - cut) = m by omega] at l1 l3
  have hu : u.length = cut := by
    by_cases e : u.length < cut
    · have hr := (k3 e).1
      have : all picks m s = all picks cut s := by
        rw [show m = cut + (m - cut) by omega, all_add, allStop hr]
      rw [this, k1] at hc
      omega
    · omega
  refine ⟨?_, by rw [k1]; exact hu⟩
  rw [l1, k1, List.take_append_of_le_length (by omega), List.take_of_length_le (by omega)]
/-- Who was picked was ready. -/
theorem split_pick (h0 : s.trace = []) {i : Nat} (hi : i < (all picks m s).trace.length) (hp : i < picks.length) : ready (all (picks.take i) i s) ≠ [] ∧ ((all picks m s).trace[i]).1 = (ready (all (picks.take i) i s)).getD (picks[i] % (ready (all (picks.take i) i s)).length) 0 := by
  have e : all (picks.take i) i s = all picks i s := all_agree i s fun j _ h2 => by
    rw [h0] at h2
    simp only [List.length_nil] at h2
    rw [List.getElem?_take, if_pos (by omega)]
  rw [e]
  obtain ⟨k1, k2⟩ := split_cut (m := m) (picks := picks) h0 (cut := i) (by omega)
  obtain ⟨l1, l2⟩ := split_cut (m := m) (picks := picks) h0 (cut := i + 1) (by omega)
  have hr : ready (all picks i s) ≠ [] := fun hr => by
    rw [all_add, allStop hr] at l2
    omega
  have hs : all picks (i + 1) s = step (all picks i s) (next (all picks i s) (ready (all picks i s)) picks) := by
    rw [all_add, show (1 : Nat) = 0 + 1 from rfl, allGo hr]; rfl
  refine ⟨hr, ?_⟩
  have h3 : ((all picks (i + 1) s).trace)[i]? = some (next (all picks i s) (ready (all picks i s)) picks, ((all picks i s).ts (next (all picks i s) (ready (all picks i s)) picks)).pc) := by
    rw [hs, step_tr, List.getElem?_append_right (by omega), k2, Nat.sub_self]; rfl
  rw [l1, List.getElem?_take, if_pos (by omega), List.getElem?_eq_getElem hi] at h3
  injection h3 with h3
  rw [h3]
  show next (all picks i s) (ready (all picks i s)) picks = _
  unfold next
  rw [dif_pos (by omega)]
  simp only [k2]
/-- Where nobody is ready no further pick changes anything. -/
theorem split_more (h0 : s.trace = []) (h1 : (all picks m s).trace.length < m) (h2 : (all picks m s).trace.length ≤ picks.length) (more : List Nat) : all (picks ++ more) m s = all picks m s := by
  obtain ⟨L, hL⟩ : ∃ L, L = (all picks m s).trace.length := ⟨_, rfl⟩
  rw [← hL] at h1 h2
  obtain ⟨k1, k2⟩ := split_cut (m := m) (picks := picks) h0 (cut := L) (by omega)
  obtain ⟨x, l1, l2, l3⟩ := all_pre picks (m - L) (all picks L s)
  rw [← all_add, show L + (m - L) = m by omega] at l1 l3
  have hx : x = [] := by
    have : (all picks m s).trace.length = L + x.length := by rw [l1, List.length_append, k2]
    exact List.length_eq_zero_iff.1 (by omega)
  obtain ⟨hr, he⟩ := l3 (by rw [hx]; simp; omega)
  have he := he hx
  have ha : all (picks ++ more) L s = all picks L s := all_agree L s fun j _ h3 => by
    rw [h0] at h3
    simp only [List.length_nil] at h3
    rw [List.getElem?_append_left (by omega)]
  rw [show m = L + (m - L) by omega, all_add, ha, ← he, allStop hr, show L + (m - L) = m by omega]
end
end Go.Proofs.Ytompelilflckkaa
