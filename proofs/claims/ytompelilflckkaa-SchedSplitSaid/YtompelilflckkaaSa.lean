/-
  The scheduler in plain words: a run's state, who is ready, a step, a run of so many steps.
-/
import Derived.Test.YtompelilflckkaaRec
namespace Go.Proofs.Ytompelilflckkaa
open Go.RowKit Go.Fl

/-- An act. -/
structure A where
  kind : Int
  a : Int
  b : Int
  n : Int
def A.none : A := ⟨0, 0, 0, 0⟩
/-- A task under way. -/
structure T where
  acts : List A
  pc : Nat
  guard : Int
  wait : Int
  died : Bool
  num : Int
def T.act (t : T) : A := t.acts.getD t.pc A.none
/-- A run. -/
structure S where
  n : Nat
  ts : Nat → T
  room : Int
  locks : Nat → Int
  conds : Nat → List Nat
  queues : Nat → List Int
  regs : Nat → Int
  last : Int
  trace : List (Nat × Nat)
/-- How a task stands. -/
def how (s : S) (t : T) : Int :=
  if t.died = true then 2 else if t.acts.length ≤ t.pc then 1
  else if (t.act.kind = 1 ∧ 0 ≤ s.locks t.act.a.toNat) ∨ (t.act.kind = 3 ∧ t.wait = 2 ∧ 0 ≤ s.locks t.act.b.toNat) then 4
  else if t.act.kind = 3 ∧ t.wait = 1 then 5
  else if t.act.kind = 6 ∧ s.room ≤ (s.queues t.act.a.toNat).length then 6
  else if t.act.kind = 7 ∧ s.queues t.act.a.toNat = [] then 7
  else 3
/-- Who is ready. -/
def ready (s : S) : List Nat := (List.range s.n).filter fun i => decide (how s (s.ts i) = 3)
/-- Whose turn it is. -/
def next (s : S) (l : List Nat) (picks : List Nat) : Nat :=
  if h : s.trace.length < picks.length then l.getD (picks[s.trace.length] % l.length) 0
  else match l.find? (fun (i : Nat) => decide (s.last < (i : Int))) with
    | some i => i
    | none => l.getD 0 0
/-- A task turned. -/
def S.setT (s : S) (i : Nat) (t : T) : S := { s with ts := upd s.ts i t }
/-- A task goes on. -/
def S.go (s : S) (i : Nat) : S := s.setT i { s.ts i with pc := (s.ts i).pc + 1 }
def S.setLock (s : S) (k : Nat) (v : Int) : S := { s with locks := upd s.locks k v }
def S.setCond (s : S) (k : Nat) (l : List Nat) : S := { s with conds := upd s.conds k l }
def S.setQueue (s : S) (k : Nat) (l : List Int) : S := { s with queues := upd s.queues k l }
def S.setReg (s : S) (k : Nat) (v : Int) : S := { s with regs := upd s.regs k v }
/-- Those wake. -/
def S.wakeAll (s : S) : List Nat → S
  | [] => s
  | i :: l => (s.setT i { s.ts i with wait := 2 }).wakeAll l
/-- The first k that wait for a condition wake. -/
def S.wake (s : S) (c k : Nat) : S := (s.wakeAll ((s.conds c).take k)).setCond c ((s.conds c).drop k)
/-- A task's act: the number it panics with, or what comes of it. -/
def doM (s : S) (i : Nat) : Except Int S :=
  let a := (s.ts i).act
  let x := a.a.toNat
  let y := a.b.toNat
  if a.kind = 1 then .ok ((s.setLock x i).go i)
  else if a.kind = 2 then (if s.locks x = i then .ok ((s.setLock x (-1)).go i) else .error (-1))
  else if a.kind = 3 then
    (if (s.ts i).wait = 0 then
      (if s.locks y = i then .ok (((s.setLock y (-1)).setT i { s.ts i with wait := 1 }).setCond x (s.conds x ++ [i])) else .error (-1))
     else .ok (((s.setT i { s.ts i with wait := 0 }).setLock y i).go i))
  else if a.kind = 4 then .ok ((s.wake x (min 1 (s.conds x).length)).go i)
  else if a.kind = 5 then .ok ((s.wake x (s.conds x).length).go i)
  else if a.kind = 6 then .ok ((s.setQueue x (s.queues x ++ [a.n])).go i)
  else if a.kind = 7 then .ok (((s.setReg y ((s.queues x).getD 0 0)).setQueue x ((s.queues x).drop 1)).go i)
  else if a.kind = 8 then .ok ((s.setReg x (wrap64 (s.regs x + a.n))).go i)
  else if a.kind = 9 then .ok ((s.setReg y (s.regs x)).go i)
  else if a.kind = 10 then .ok ((if s.regs x = 0 then s.setT i { s.ts i with pc := min ((s.ts i).pc + a.n.toNat) (s.ts i).acts.length } else s).go i)
  else if a.kind = 12 then .error a.n
  else if a.kind = 13 then .ok ((s.setT i { s.ts i with guard := a.n }).go i)
  else .ok (s.go i)
/-- What a panic makes of a task. -/
def caught (s : S) (i : Nat) (n : Int) : S :=
  if (s.ts i).guard < 0 then s.setT i { s.ts i with died := true, num := n }
  else (s.setT i { s.ts i with pc := (s.ts i).guard.toNat, guard := -1, wait := 0 }).setReg 7 n
/-- A task's step. -/
def mark (s : S) (i : Nat) : S := { s with trace := s.trace ++ [(i, (s.ts i).pc)], last := i }
def step (s : S) (i : Nat) : S :=
  match doM (mark s i) i with
  | .ok s2 => s2
  | .error n => caught (mark s i) i n
/-- At most so many steps. -/
def all (picks : List Nat) : Nat → S → S
  | 0, s => s
  | k + 1, s => if ready s = [] then s else all picks k (step s (next s (ready s) picks))
/-- A run ahead of its first step. -/
def begin_ (acts : List (List A)) (room : Int) : S :=
  ⟨acts.length, fun i => ⟨acts.getD i [], 0, -1, 0, false, 0⟩, room, fun _ => -1, fun _ => [], fun _ => [], fun _ => 0, -1, []⟩

/-- An act may be, in a list of so many. -/
def okA (len : Nat) (a : A) : Prop :=
  (a.kind = 1 ∨ a.kind = 2 ∨ a.kind = 4 ∨ a.kind = 5) ∧ 0 ≤ a.a ∧ a.a < 4 ∧ a.b = 0 ∧ a.n = 0 ∨
  a.kind = 3 ∧ 0 ≤ a.a ∧ a.a < 4 ∧ 0 ≤ a.b ∧ a.b < 4 ∧ a.n = 0 ∨
  a.kind = 6 ∧ 0 ≤ a.a ∧ a.a < 4 ∧ a.b = 0 ∨
  a.kind = 7 ∧ 0 ≤ a.a ∧ a.a < 4 ∧ 0 ≤ a.b ∧ a.b < 8 ∧ a.n = 0 ∨
  a.kind = 8 ∧ 0 ≤ a.a ∧ a.a < 8 ∧ a.b = 0 ∨
  a.kind = 9 ∧ 0 ≤ a.a ∧ a.a < 8 ∧ 0 ≤ a.b ∧ a.b < 8 ∧ a.n = 0 ∨
  a.kind = 10 ∧ 0 ≤ a.a ∧ a.a < 8 ∧ a.b = 0 ∧ 0 ≤ a.n ∧ a.n ≤ 255 ∨
  a.kind = 11 ∧ a.a = 0 ∧ a.b = 0 ∧ a.n = 0 ∨
  a.kind = 12 ∧ a.a = 0 ∧ a.b = 0 ∨
  a.kind = 13 ∧ a.a = 0 ∧ a.b = 0 ∧ 0 ≤ a.n ∧ a.n ≤ len
/-- What holds of each run; lines and queues hold at most L. -/
structure WF (s : S) (L : Nat) : Prop where
  n : s.n ≤ 16
  room : 1 ≤ s.room ∧ s.room ≤ 16
  lens : ∀ i, i < s.n → (s.ts i).acts.length ≤ 256
  acts : ∀ i, i < s.n → ∀ a ∈ (s.ts i).acts, okA (s.ts i).acts.length a
  pc : ∀ i, i < s.n → (s.ts i).pc ≤ (s.ts i).acts.length + 1
  guard : ∀ i, i < s.n → -1 ≤ (s.ts i).guard ∧ (s.ts i).guard ≤ (s.ts i).acts.length
  wait : ∀ i, i < s.n → (s.ts i).wait = 0 ∨ (s.ts i).wait = 1 ∨ (s.ts i).wait = 2
  conds : ∀ c, (∀ i ∈ s.conds c, i < s.n) ∧ (s.conds c).length ≤ L
  queues : ∀ c, (s.queues c).length ≤ L
section
variable {s : S} {L i : Nat}
theorem WF.mono {L2 : Nat} (h : WF s L) (hl : L ≤ L2) : WF s L2 :=
  ⟨h.n, h.room, h.lens, h.acts, h.pc, h.guard, h.wait, fun c => ⟨(h.conds c).1, Nat.le_trans (h.conds c).2 hl⟩, fun c => Nat.le_trans (h.queues c) hl⟩
theorem WF.mark (h : WF s L) : WF (mark s i) L := ⟨h.n, h.room, h.lens, h.acts, h.pc, h.guard, h.wait, h.conds, h.queues⟩
theorem WF.setT (h : WF s L) {t : T} (ha : t.acts = (s.ts i).acts) (hp : t.pc ≤ (s.ts i).acts.length + 1) (hg : -1 ≤ t.guard ∧ t.guard ≤ (s.ts i).acts.length) (hw : t.wait = 0 ∨ t.wait = 1 ∨ t.wait = 2) : WF (s.setT i t) L := by
  have e : ∀ j, j = i ∧ (s.setT i t).ts j = t ∨ j ≠ i ∧ (s.setT i t).ts j = s.ts j := fun j => by
    by_cases hj : j = i
    · subst hj; exact .inl ⟨rfl, upd_same _ _ _⟩
    · exact .inr ⟨hj, upd_ne _ _ _ _ hj⟩
  refine ⟨h.n, h.room, fun j hj => ?_, fun j hj => ?_, fun j hj => ?_, fun j hj => ?_, fun j hj => ?_, h.conds, h.queues⟩ <;>
    rcases e j with ⟨rfl, e⟩ | ⟨_, e⟩ <;> rw [e]
  · rw [ha]; exact h.lens _ hj
  · exact h.lens _ hj
  · rw [ha]; exact h.acts _ hj
  · exact h.acts _ hj
  · rw [ha]; exact hp
  · exact h.pc _ hj
  · rw [ha]; exact hg
  · exact h.guard _ hj
  · exact hw
  · exact h.wait _ hj
theorem WF.go (h : WF s L) (hi : i < s.n) (hp : (s.ts i).pc ≤ (s.ts i).acts.length) : WF (s.go i) L :=
  h.setT (t := { s.ts i with pc := (s.ts i).pc + 1 }) rfl (Nat.succ_le_succ hp) (h.guard i hi) (h.wait i hi)
theorem WF.setLock (h : WF s L) (k : Nat) (v : Int) : WF (s.setLock k v) L := ⟨h.n, h.room, h.lens, h.acts, h.pc, h.guard, h.wait, h.conds, h.queues⟩
theorem WF.setReg (h : WF s L) (k : Nat) (v : Int) : WF (s.setReg k v) L := ⟨h.n, h.room, h.lens, h.acts, h.pc, h.guard, h.wait, h.conds, h.queues⟩
theorem WF.setCond (h : WF s L) (k : Nat) {l : List Nat} (h1 : ∀ i ∈ l, i < s.n) (h2 : l.length ≤ L) : WF (s.setCond k l) L :=
  ⟨h.n, h.room, h.lens, h.acts, h.pc, h.guard, h.wait, fun c => by
    show (∀ i ∈ upd s.conds k l c, i < s.n) ∧ (upd s.conds k l c).length ≤ L
    unfold upd; split
    · exact ⟨h1, h2⟩
    · exact h.conds c, h.queues⟩
theorem WF.setQueue (h : WF s L) (k : Nat) {l : List Int} (h2 : l.length ≤ L) : WF (s.setQueue k l) L :=
  ⟨h.n, h.room, h.lens, h.acts, h.pc, h.guard, h.wait, h.conds, fun c => by
    show (upd s.queues k l c).length ≤ L
    unfold upd; split
    · exact h2
    · exact h.queues c⟩
theorem wakeAll_n (s : S) (l : List Nat) : (s.wakeAll l).n = s.n := by
  induction l generalizing s with
  | nil => rfl
  | cons i l ih => exact ih _
theorem wakeAll_trace (s : S) (l : List Nat) : (s.wakeAll l).trace = s.trace := by
  induction l generalizing s with
  | nil => rfl
  | cons i l ih => exact ih _
theorem wakeAll_conds (s : S) (l : List Nat) : (s.wakeAll l).conds = s.conds := by
  induction l generalizing s with
  | nil => rfl
  | cons i l ih => exact ih _
theorem wakeAll_t (s : S) (l : List Nat) (j : Nat) : ((s.wakeAll l).ts j).acts = (s.ts j).acts ∧ ((s.wakeAll l).ts j).pc = (s.ts j).pc ∧ ((s.wakeAll l).ts j).guard = (s.ts j).guard := by
  induction l generalizing s with
  | nil => exact ⟨rfl, rfl, rfl⟩
  | cons i l ih =>
    obtain ⟨h1, h2, h3⟩ := ih (s.setT i { s.ts i with wait := 2 })
    have : ((s.setT i { s.ts i with wait := 2 }).ts j).acts = (s.ts j).acts ∧ ((s.setT i { s.ts i with wait := 2 }).ts j).pc = (s.ts j).pc ∧ ((s.setT i { s.ts i with wait := 2 }).ts j).guard = (s.ts j).guard := by
      by_cases hj : j = i
      · subst hj; unfold S.setT; simp only [upd_same]; exact ⟨trivial, trivial, trivial⟩
      · unfold S.setT; simp only [upd_ne _ _ _ _ hj]; exact ⟨trivial, trivial, trivial⟩
    exact ⟨h1.trans this.1, h2.trans this.2.1, h3.trans this.2.2⟩
theorem WF.wakeAll : ∀ (l : List Nat) {s : S}, WF s L → (∀ i ∈ l, i < s.n) → WF (s.wakeAll l) L
  | [], _, h, _ => h
  | i :: l, s, h, hl => by
    have hi := hl i (by simp)
    exact WF.wakeAll l (h.setT (i := i) (t := { s.ts i with wait := 2 }) rfl (h.pc i hi) (h.guard i hi) (.inr (.inr rfl))) (fun j hj => hl j (by simp [hj]))
theorem WF.wake (h : WF s L) (c k : Nat) : WF (s.wake c k) L := by
  refine WF.setCond (WF.wakeAll _ h fun i hi => (h.conds c).1 i (List.mem_of_mem_take hi)) c (fun i hi => ?_) ?_
  · rw [wakeAll_n]; exact (h.conds c).1 i (List.mem_of_mem_drop hi)
  · rw [List.length_drop]; exact Nat.le_trans (Nat.sub_le _ _) (h.conds c).2
theorem how_ready {t : T} (h : how s t = 3) : t.died = false ∧ t.pc < t.acts.length := by
  unfold how at h
  split at h
  · cases h
  · split at h
    · cases h
    · rename_i h1 h2
      exact ⟨by simpa using h1, by omega⟩
theorem doM_ok (h : WF s L) (hi : i < s.n) (hp : (s.ts i).pc < (s.ts i).acts.length) {s2 : S} (hs : doM s i = .ok s2) : WF s2 (L + 1) ∧ s2.n = s.n ∧ s2.trace = s.trace := by
  have hp2 : (s.ts i).pc ≤ (s.ts i).acts.length := by omega
  have hw : ∀ k c, WF ((s.wake c k).go i) (L + 1) ∧ ((s.wake c k).go i).n = s.n ∧ ((s.wake c k).go i).trace = s.trace := fun k c => by
    have e := wakeAll_t s ((s.conds c).take k) i
    have hn := wakeAll_n s ((s.conds c).take k)
    refine ⟨((h.wake c k).go (show i < (s.wakeAll ((s.conds c).take k)).n by rw [hn]; exact hi) ?_).mono (by omega), hn, wakeAll_trace _ _⟩
    show ((s.wakeAll _).ts i).pc ≤ ((s.wakeAll _).ts i).acts.length
    rw [e.1, e.2.1]; exact hp2
  have hact : okA (s.ts i).acts.length (s.ts i).act := h.acts i hi _ (by unfold T.act; rw [List.getD_eq_getElem?_getD, List.getElem?_eq_getElem hp]; exact List.getElem_mem hp)
  unfold doM at hs
  dsimp only at hs
  by_cases hk : (s.ts i).act.kind = 1
  · rw [if_pos hk] at hs
    injection hs with hs; subst hs; exact ⟨((h.setLock _ _).go hi hp2).mono (by omega), rfl, rfl⟩
  rw [if_neg hk] at hs; clear hk
  by_cases hk : (s.ts i).act.kind = 2
  · rw [if_pos hk] at hs
    by_cases hl : s.locks (s.ts i).act.a.toNat = i
    · rw [if_pos hl] at hs
      injection hs with hs; subst hs; exact ⟨((h.setLock _ _).go hi hp2).mono (by omega), rfl, rfl⟩
    · rw [if_neg hl] at hs; cases hs
  rw [if_neg hk] at hs; clear hk
  by_cases hk : (s.ts i).act.kind = 3
  · rw [if_pos hk] at hs
    by_cases hw0 : (s.ts i).wait = 0
    · rw [if_pos hw0] at hs
      by_cases hl : s.locks (s.ts i).act.b.toNat = i
      · rw [if_pos hl] at hs
        injection hs with hs; subst hs
        refine ⟨(WF.setCond (((h.setLock _ _).setT (i := i) (t := { s.ts i with wait := 1 }) rfl (h.pc i hi) (h.guard i hi) (.inr (.inl rfl))).mono (by omega)) _ (fun j hj => ?_) ?_), rfl, rfl⟩
        · rcases List.mem_append.1 hj with hj | hj
          · exact (h.conds _).1 j hj
          · obtain rfl : j = i := by simpa using hj
            exact hi
        · have := (h.conds (s.ts i).act.a.toNat).2
          rw [List.length_append]; simp; omega
      · rw [if_neg hl] at hs; cases hs
    · rw [if_neg hw0] at hs
      injection hs with hs; subst hs
      have h1 : WF (s.setT i { s.ts i with wait := 0 }) L := h.setT rfl (h.pc i hi) (h.guard i hi) (.inl rfl)
      refine ⟨((h1.setLock _ _).go hi ?_).mono (by omega), rfl, rfl⟩
      show ((upd s.ts i _) i).pc ≤ ((upd s.ts i _) i).acts.length
      rw [upd_same]; exact hp2
  rw [if_neg hk] at hs; clear hk
  by_cases hk : (s.ts i).act.kind = 4
  · rw [if_pos hk] at hs
    injection hs with hs; subst hs; exact hw _ _
  rw [if_neg hk] at hs; clear hk
  by_cases hk : (s.ts i).act.kind = 5
  · rw [if_pos hk] at hs
    injection hs with hs; subst hs; exact hw _ _
  rw [if_neg hk] at hs; clear hk
  by_cases hk : (s.ts i).act.kind = 6
  · rw [if_pos hk] at hs
    injection hs with hs; subst hs
    refine ⟨WF.go ((h.mono (by omega)).setQueue _ ?_) hi hp2, rfl, rfl⟩
    have := h.queues (s.ts i).act.a.toNat
    rw [List.length_append]; simp; omega
  rw [if_neg hk] at hs; clear hk
  by_cases hk : (s.ts i).act.kind = 7
  · rw [if_pos hk] at hs
    injection hs with hs; subst hs
    refine ⟨(WF.go ((h.setReg _ _).setQueue _ ?_) hi hp2).mono (by omega), rfl, rfl⟩
    have := h.queues (s.ts i).act.a.toNat
    rw [List.length_drop]; omega
  rw [if_neg hk] at hs; clear hk
  by_cases hk : (s.ts i).act.kind = 8
  · rw [if_pos hk] at hs
    injection hs with hs; subst hs; exact ⟨((h.setReg _ _).go hi hp2).mono (by omega), rfl, rfl⟩
  rw [if_neg hk] at hs; clear hk
  by_cases hk : (s.ts i).act.kind = 9
  · rw [if_pos hk] at hs
    injection hs with hs; subst hs; exact ⟨((h.setReg _ _).go hi hp2).mono (by omega), rfl, rfl⟩
  rw [if_neg hk] at hs; clear hk
  by_cases hk : (s.ts i).act.kind = 10
  · rw [if_pos hk] at hs
    injection hs with hs; subst hs
    by_cases hz : s.regs (s.ts i).act.a.toNat = 0
    · rw [if_pos hz]
      have h1 : WF (s.setT i { s.ts i with pc := min ((s.ts i).pc + (s.ts i).act.n.toNat) (s.ts i).acts.length }) L := h.setT rfl (by show min _ _ ≤ _; omega) (h.guard i hi) (h.wait i hi)
      refine ⟨(h1.go hi ?_).mono (by omega), rfl, rfl⟩
      show ((upd s.ts i _) i).pc ≤ ((upd s.ts i _) i).acts.length
      rw [upd_same]; exact Nat.min_le_right _ _
    · rw [if_neg hz]
      exact ⟨(h.go hi hp2).mono (by omega), rfl, rfl⟩
  rw [if_neg hk] at hs; clear hk
  by_cases hk : (s.ts i).act.kind = 12
  · rw [if_pos hk] at hs; cases hs
  rw [if_neg hk] at hs; clear hk
  by_cases hk : (s.ts i).act.kind = 13
  · rw [if_pos hk] at hs
    injection hs with hs; subst hs
    have hg : -1 ≤ (s.ts i).act.n ∧ (s.ts i).act.n ≤ (s.ts i).acts.length := by unfold okA at hact; omega
    have h1 : WF (s.setT i { s.ts i with guard := (s.ts i).act.n }) L := h.setT rfl (h.pc i hi) hg (h.wait i hi)
    refine ⟨(h1.go hi ?_).mono (by omega), rfl, rfl⟩
    show ((upd s.ts i _) i).pc ≤ ((upd s.ts i _) i).acts.length
    rw [upd_same]; exact hp2
  · rw [if_neg hk] at hs
    injection hs with hs; subst hs; exact ⟨(h.go hi hp2).mono (by omega), rfl, rfl⟩
theorem caught_ok (h : WF s L) (hi : i < s.n) (n : Int) : WF (caught s i n) L ∧ (caught s i n).n = s.n ∧ (caught s i n).trace = s.trace := by
  unfold caught
  split
  · exact ⟨h.setT rfl (h.pc i hi) (h.guard i hi) (h.wait i hi), rfl, rfl⟩
  · have := (h.guard i hi).2
    exact ⟨(WF.setT (t := { s.ts i with pc := (s.ts i).guard.toNat, guard := -1, wait := 0 }) h rfl (by show Int.toNat _ ≤ _; omega) ⟨by show (-1 : Int) ≤ -1; omega, by show (-1 : Int) ≤ _; omega⟩ (.inl rfl)).setReg _ _, rfl, rfl⟩
theorem step_ok (h : WF s L) (hi : i < s.n) (hr : how s (s.ts i) = 3) : WF (step s i) (L + 1) ∧ (step s i).n = s.n ∧ (step s i).trace = s.trace ++ [(i, (s.ts i).pc)] := by
  have hp := (how_ready hr).2
  unfold step
  cases hd : doM (Go.Proofs.Ytompelilflckkaa.mark s i) i with
  | ok s2 => exact doM_ok h.mark hi hp hd
  | error n =>
    obtain ⟨h1, h2, h3⟩ := caught_ok (h.mark (i := i)) hi n
    exact ⟨h1.mono (Nat.le_succ L), h2, h3⟩
end
end Go.Proofs.Ytompelilflckkaa
