/-
  SchedLocks in plain words: each adds so often, with the lock: nothing is lost.
-/
import Derived.Test.YtompelilflckkaaWa
namespace Go.Proofs.Ytompelilflckkaa
open Go.RowKit Go.Fl

def lRound (y : Bool) (i : Nat) : List A := [⟨1, 2, 0, 0⟩, ⟨9, 0, 1, 0⟩] ++ (if y = true then [⟨11, 0, 0, 0⟩] else []) ++ [⟨8, 1, 0, (i : Int) + 1⟩, ⟨9, 1, 0, 0⟩, ⟨2, 2, 0, 0⟩]
def lTask (y : Bool) (i : Nat) : Nat → List A
  | 0 => []
  | k + 1 => lTask y i k ++ lRound y i
def lTasks (y : Bool) (n times : Nat) : List (List A) := (List.range n).map fun i => lTask y i times
def lM (y : Bool) : Nat := if y = true then 6 else 5
theorem lRound_len (y : Bool) (i : Nat) : (lRound y i).length = lM y := by cases y <;> rfl
theorem lTask_len (y : Bool) (i : Nat) : ∀ k, (lTask y i k).length = k * lM y
  | 0 => by simp [lTask]
  | k + 1 => by
    simp only [lTask, List.length_append, lRound_len, lTask_len y i k]
    rw [Nat.add_mul, Nat.one_mul]
theorem lM_two (y : Bool) : y = false ∧ lM y = 5 ∨ y = true ∧ lM y = 6 := by cases y <;> simp [lM]
theorem lTask_at (y : Bool) (i : Nat) : ∀ (k r o : Nat), r < k → o < lM y → (lTask y i k).getD (r * lM y + o) A.none = (lRound y i).getD o A.none
  | 0, r, o, h, _ => absurd h (Nat.not_lt_zero _)
  | k + 1, r, o, h, ho => by
    have hl := lTask_len y i k
    have hrl := lRound_len y i
    simp only [lTask]
    by_cases hr : r < k
    · have ih := lTask_at y i k r o hr ho
      have h1 : (r + 1) * lM y ≤ k * lM y := Nat.mul_le_mul_right _ hr
      rw [Nat.add_mul, Nat.one_mul] at h1
      rw [List.getD_eq_getElem?_getD] at ih ⊢
      rw [List.getElem?_append_left (by omega)]
      exact ih
    · obtain rfl : r = k := by omega
      rw [List.getD_eq_getElem?_getD, List.getElem?_append_right (by omega), hl, Nat.add_sub_cancel_left, List.getD_eq_getElem?_getD]
def sumL : Nat → (Nat → Nat) → Nat
  | 0, _ => 0
  | n + 1, c => sumL n c + (n + 1) * c n
def totL : Nat → (Nat → Nat) → Nat
  | 0, _ => 0
  | n + 1, c => totL n c + c n
theorem sumL_far {n i : Nat} (c : Nat → Nat) (v : Nat) (h : n ≤ i) : sumL n (upd c i v) = sumL n c := by
  induction n with
  | zero => rfl
  | succ n ih =>
    simp only [sumL]
    rw [ih (by omega), upd_ne _ _ _ _ (by omega)]
theorem totL_far {n i : Nat} (c : Nat → Nat) (v : Nat) (h : n ≤ i) : totL n (upd c i v) = totL n c := by
  induction n with
  | zero => rfl
  | succ n ih =>
    simp only [totL]
    rw [ih (by omega), upd_ne _ _ _ _ (by omega)]
theorem sumL_upd {n i : Nat} (c : Nat → Nat) (h : i < n) : sumL n (upd c i (c i + 1)) = sumL n c + (i + 1) := by
  induction n with
  | zero => omega
  | succ n ih =>
    simp only [sumL]
    by_cases hi : i = n
    · subst hi
      rw [sumL_far c _ (Nat.le_refl _), upd_same, Nat.mul_add, Nat.mul_one]; omega
    · rw [ih (by omega), upd_ne _ _ _ _ (fun e => hi e.symm)]; omega
theorem totL_upd {n i : Nat} (c : Nat → Nat) (h : i < n) : totL n (upd c i (c i + 1)) = totL n c + 1 := by
  induction n with
  | zero => omega
  | succ n ih =>
    simp only [totL]
    by_cases hi : i = n
    · subst hi
      rw [totL_far c _ (Nat.le_refl _), upd_same]; omega
    · rw [ih (by omega), upd_ne _ _ _ _ (fun e => hi e.symm)]; omega
theorem sumL_le {n t : Nat} {c : Nat → Nat} (h : ∀ i, i < n → c i ≤ t) : sumL n c ≤ n * (n * t) := by
  have key : ∀ m, m ≤ n → sumL m c ≤ m * (n * t) := by
    intro m
    induction m with
    | zero => intro _; simp [sumL]
    | succ m ih =>
      intro hm
      have := ih (by omega)
      have h2 : (m + 1) * c m ≤ n * t := Nat.mul_le_mul hm (h m (by omega))
      simp only [sumL]
      rw [Nat.add_mul m 1 (n * t), Nat.one_mul]
      omega
  exact key n (Nat.le_refl _)
theorem totL_le {n t : Nat} {c : Nat → Nat} (h : ∀ i, i < n → c i ≤ t) : totL n c ≤ n * t := by
  induction n with
  | zero => simp [totL]
  | succ n ih =>
    have := ih (fun i hi => h i (by omega))
    have h2 := h n (by omega)
    simp only [totL]
    rw [Nat.add_mul, Nat.one_mul]
    omega
theorem sumL_all {n t : Nat} {c : Nat → Nat} (h : ∀ i, i < n → c i = t) : sumL n c * 2 = t * n * (n + 1) := by
  induction n with
  | zero => simp [sumL]
  | succ n ih =>
    have := ih (fun i hi => h i (by omega))
    simp only [sumL]
    rw [h n (by omega), Nat.add_mul, this]
    rw [Nat.mul_succ t n]
    simp only [Nat.mul_add, Nat.add_mul, Nat.mul_one, Nat.one_mul]
    have : n * t = t * n := Nat.mul_comm _ _
    omega
/-- c i rounds are done; o is where the holder h stands, 0 without one. -/
structure LI (y : Bool) (n times : Nat) (c : Nat → Nat) (h o : Nat) (s : S) : Prop where
  sn : s.n = n
  ts : ∀ i, i < n → s.ts i = ⟨lTask y i times, c i * lM y + (if i = h then o else 0), -1, 0, false, 0⟩
  ho : o < lM y ∧ (o ≠ 0 → h < n ∧ c h < times)
  le : ∀ i, i < n → c i ≤ times
  lk : s.locks 2 = if o = 0 then -1 else (h : Int)
  r0 : s.regs 0 = ((sumL n c + (if o = lM y - 1 then h + 1 else 0) : Nat) : Int)
  r1 : 2 ≤ o → s.regs 1 = ((sumL n c + (if lM y - 2 ≤ o then h + 1 else 0) : Nat) : Int)
  tr : s.trace.length = lM y * totL n c + o
section
variable {y : Bool} {n times : Nat} {c : Nat → Nat} {h o : Nat} {s : S}
theorem LI.act (H : LI y n times c h o s) {i : Nat} (hi : i < n) (hc : c i < times) : (s.ts i).act = (lRound y i).getD (if i = h then o else 0) A.none := by
  rw [H.ts i hi]
  have := H.ho
  exact lTask_at y i times _ _ hc (by split <;> omega)
/-- The holder goes on. -/
theorem LI.on (H : LI y n times c h o s) (h0 : o ≠ 0) (h1 : o + 1 < lM y) {s' : S} (en : s'.n = s.n) (et : s'.ts = upd s.ts h { s.ts h with pc := (s.ts h).pc + 1 }) (el : s'.locks 2 = s.locks 2) (er0 : s'.regs 0 = ((sumL n c + (if o + 1 = lM y - 1 then h + 1 else 0) : Nat) : Int))
    (er1 : s'.regs 1 = ((sumL n c + (if lM y - 2 ≤ o + 1 then h + 1 else 0) : Nat) : Int)) (etr : s'.trace.length = s.trace.length + 1) : LI y n times c h (o + 1) s' := by
  obtain ⟨hh, hc⟩ := H.ho.2 h0
  refine ⟨en.trans H.sn, fun i hi => ?_, ⟨h1, fun _ => ⟨hh, hc⟩⟩, H.le, ?_, er0, fun _ => er1, ?_⟩
  · rw [et]
    by_cases e : i = h
    · subst e
      rw [upd_same, H.ts i hi, if_pos rfl, if_pos rfl]
      rw [Nat.add_assoc]
    · rw [upd_ne _ _ _ _ e, H.ts i hi, if_neg e, if_neg e]
  · rw [el, H.lk, if_neg h0, if_neg (by omega)]
  · rw [etr, H.tr]; omega
theorem LI.step (H : LI y n times c h o s) (hn : n ≤ 7) (ht : times ≤ 8) {i : Nat} (hi : i < s.n) (hh : how s (s.ts i) = 3) : (∃ c' h' o', LI y n times c' h' o' (step s i)) ∧ (step s i).trace.length = s.trace.length + 1 := by
  rw [H.sn] at hi
  have hts := H.ts i hi
  have hle := H.le i hi
  have hpc : (s.ts i).pc < (s.ts i).acts.length := by
    unfold how at hh
    rw [if_neg (by rw [hts]; simp)] at hh
    by_cases e : (s.ts i).acts.length ≤ (s.ts i).pc
    · rw [if_pos e] at hh; omega
    · omega
  have hci : c i < times := by
    rw [hts] at hpc
    have : c i * lM y + (if i = h then o else 0) < times * lM y := by rw [← lTask_len y i times]; exact hpc
    rcases Nat.lt_or_ge (c i) times with e | e
    · exact e
    · have := Nat.mul_le_mul_right (lM y) e
      omega
  have hact := H.act hi hci
  have hsum := sumL_le H.le
  have hb : n * (n * times) ≤ 7 * (7 * 8) := Nat.mul_le_mul hn (Nat.mul_le_mul hn ht)
  by_cases hold : i = h ∧ o ≠ 0
  · obtain ⟨rfl, h0⟩ := hold
    rw [if_pos rfl] at hact
    have hob := H.ho.1
    have hlk := H.lk
    rw [if_neg h0] at hlk
    have hr0 := H.r0
    have hr1 := H.r1
    have hcase : o = 1 ∨ (y = true ∧ o = 2) ∨ o = lM y - 3 ∨ o = lM y - 2 ∨ o = lM y - 1 := by
      rcases lM_two y with ⟨e, e2⟩ | ⟨e, e2⟩ <;> rw [e2] at hob ⊢ <;> simp [e] <;> omega
    have hm : 5 ≤ lM y := by rcases lM_two y with ⟨e, e2⟩ | ⟨e, e2⟩ <;> omega
    rcases hcase with rfl | ⟨ey, rfl⟩ | e | e | e
    · have ha : (s.ts i).act = ⟨9, 0, 1, 0⟩ := by rw [hact]; rfl
      rw [step_copy ha]
      rw [if_neg (by omega)] at hr0
      have ht : (((mark s i).setReg (1 : Int).toNat (s.regs (0 : Int).toNat)).go i).trace.length = s.trace.length + 1 := by show (s.trace ++ [_]).length = _; rw [List.length_append]; rfl
      refine ⟨⟨c, i, 2, H.on h0 (by omega) rfl rfl rfl ?_ ?_ ht⟩, ht⟩
      · rw [if_neg (by omega)]
        show (upd s.regs 1 (s.regs 0)) 0 = _
        rw [upd_ne _ _ _ _ (by omega)]; exact hr0
      · rw [if_neg (by omega)]
        show (upd s.regs 1 (s.regs 0)) 1 = _
        rw [upd_same]; exact hr0
    · have ha : (s.ts i).act = ⟨11, 0, 0, 0⟩ := by rw [hact, ey]; rfl
      have hm6 : lM y = 6 := by rw [ey]; rfl
      rw [step_yield ha]
      rw [if_neg (by omega)] at hr0
      have hr1 := hr1 (by omega)
      rw [if_neg (by omega)] at hr1
      have ht : ((mark s i).go i).trace.length = s.trace.length + 1 := by show (s.trace ++ [_]).length = _; rw [List.length_append]; rfl
      refine ⟨⟨c, i, 3, H.on h0 (by omega) rfl rfl rfl ?_ ?_ ht⟩, ht⟩
      · rw [if_neg (by omega)]; exact hr0
      · rw [if_neg (by omega)]; exact hr1
    · have ha : (s.ts i).act = ⟨8, 1, 0, (i : Int) + 1⟩ := by rw [hact, e]; rcases lM_two y with ⟨ey, e2⟩ | ⟨ey, e2⟩ <;> rw [e2, ey] <;> rfl
      rw [step_add ha]
      rw [if_neg (by omega)] at hr0
      have hr1 := hr1 (by omega)
      rw [if_neg (by omega)] at hr1
      have ht : (((mark s i).setReg (1 : Int).toNat (wrap64 (s.regs (1 : Int).toNat + ((i : Int) + 1)))).go i).trace.length = s.trace.length + 1 := by show (s.trace ++ [_]).length = _; rw [List.length_append]; rfl
      refine ⟨⟨c, i, o + 1, H.on h0 (by omega) rfl rfl rfl ?_ ?_ ht⟩, ht⟩
      · rw [if_neg (by omega)]
        show (upd s.regs 1 (wrap64 (s.regs 1 + ((i : Int) + 1)))) 0 = _
        rw [upd_ne _ _ _ _ (by omega)]; exact hr0
      · rw [if_pos (by omega)]
        show (upd s.regs 1 (wrap64 (s.regs 1 + ((i : Int) + 1)))) 1 = _
        rw [upd_same, hr1]
        unfold wrap64
        omega
    · have ha : (s.ts i).act = ⟨9, 1, 0, 0⟩ := by rw [hact, e]; rcases lM_two y with ⟨ey, e2⟩ | ⟨ey, e2⟩ <;> rw [e2, ey] <;> rfl
      rw [step_copy ha]
      have hr1 := hr1 (by omega)
      rw [if_pos (by omega)] at hr1
      have ht : (((mark s i).setReg (0 : Int).toNat (s.regs (1 : Int).toNat)).go i).trace.length = s.trace.length + 1 := by show (s.trace ++ [_]).length = _; rw [List.length_append]; rfl
      refine ⟨⟨c, i, o + 1, H.on h0 (by omega) rfl rfl rfl ?_ ?_ ht⟩, ht⟩
      · rw [if_pos (by omega)]
        show (upd s.regs 0 (s.regs 1)) 0 = _
        rw [upd_same]; exact hr1
      · rw [if_pos (by omega)]
        show (upd s.regs 0 (s.regs 1)) 1 = _
        rw [upd_ne _ _ _ _ (by omega)]; exact hr1
    · have ha : (s.ts i).act = ⟨2, 2, 0, 0⟩ := by rw [hact, e]; rcases lM_two y with ⟨ey, e2⟩ | ⟨ey, e2⟩ <;> rw [e2, ey] <;> rfl
      rw [step_unlock ha hlk]
      rw [if_pos e] at hr0
      have ht : (((mark s i).setLock (2 : Int).toNat (-1)).go i).trace.length = s.trace.length + 1 := by show (s.trace ++ [_]).length = _; rw [List.length_append]; rfl
      refine ⟨⟨upd c i (c i + 1), i, 0, H.sn, fun j hj => ?_, ⟨by omega, fun e => absurd rfl e⟩, fun j hj => ?_, ?_, ?_, fun e => absurd e (by omega), ?_⟩, ht⟩
      · by_cases ej : j = i
        · subst ej
          rw [if_pos rfl] at hts
          refine (go_to (s := (mark s j).setLock (2 : Int).toNat (-1)) hts).trans ?_
          rw [upd_same, if_pos rfl, Nat.add_mul, Nat.one_mul, show c j * lM y + o + 1 = c j * lM y + lM y + 0 by omega]
        · rw [go_ne _ ej, upd_ne _ _ _ _ ej]
          have := H.ts j hj
          rw [if_neg ej] at this ⊢
          exact this
      · by_cases ej : j = i
        · subst ej; rw [upd_same]; omega
        · rw [upd_ne _ _ _ _ ej]; exact H.le j hj
      · show (upd s.locks 2 (-1)) 2 = _
        rw [upd_same, if_pos rfl]
      · rw [sumL_upd c hi, if_neg (by omega)]
        exact hr0
      · rw [ht, H.tr, totL_upd c hi, Nat.mul_add, Nat.mul_one]; omega
  · have hz : (if i = h then o else 0) = 0 := by
      by_cases e : i = h
      · rw [if_pos e]
        by_cases e2 : o = 0
        · exact e2
        · exact absurd ⟨e, e2⟩ hold
      · rw [if_neg e]
    rw [hz] at hact hts
    have ha : (s.ts i).act = ⟨1, 2, 0, 0⟩ := by rw [hact]; rfl
    have ho0 : o = 0 := by
      by_cases e : o = 0
      · exact e
      · have hlk := H.lk
        rw [if_neg e] at hlk
        unfold how at hh
        rw [if_neg (by rw [hts]; simp), if_neg (by omega), ha, if_pos (.inl ⟨rfl, by show 0 ≤ s.locks 2; omega⟩)] at hh
        omega
    subst ho0
    rw [step_lock ha]
    have hr0 := H.r0
    rw [if_neg (by have := H.ho.1; rcases lM_two y with ⟨_, e2⟩ | ⟨_, e2⟩ <;> omega)] at hr0
    have ht : (((mark s i).setLock (2 : Int).toNat i).go i).trace.length = s.trace.length + 1 := by show (s.trace ++ [_]).length = _; rw [List.length_append]; rfl
    refine ⟨⟨c, i, 1, H.sn, fun j hj => ?_, ⟨by rcases lM_two y with ⟨_, e2⟩ | ⟨_, e2⟩ <;> omega, fun _ => ⟨hi, hci⟩⟩, H.le, ?_, ?_, fun e => absurd e (by omega), ?_⟩, ht⟩
    · by_cases ej : j = i
      · subst ej
        rw [if_pos rfl]
        exact go_to (s := (mark s j).setLock (2 : Int).toNat j) hts
      · rw [go_ne _ ej, if_neg ej]
        have := H.ts j hj
        rw [show (if j = h then 0 else 0) = 0 by split <;> rfl] at this
        exact this
    · show (upd s.locks 2 (i : Int)) 2 = _
      rw [upd_same, if_neg (by omega)]
    · rw [if_neg (by rcases lM_two y with ⟨_, e2⟩ | ⟨_, e2⟩ <;> omega)]
      exact hr0
    · rw [ht, H.tr]
theorem LI.stop (H : LI y n times c h o s) (hr : ready s = []) : o = 0 ∧ ∀ i, i < n → c i = times := by
  have hno : ∀ i, i < n → how s (s.ts i) ≠ 3 := fun i hi e => by
    have : i ∈ ready s := rdy_mem.2 ⟨by rw [H.sn]; exact hi, e⟩
    rw [hr] at this; cases this
  have ho0 : o = 0 := by
    by_cases e : o = 0
    · exact e
    · exfalso
      obtain ⟨hh, hc⟩ := H.ho.2 e
      have ha := H.act hh hc
      rw [if_pos rfl] at ha
      have hob := H.ho.1
      have hk : (s.ts h).act.kind ≠ 1 ∧ (s.ts h).act.kind ≠ 3 ∧ (s.ts h).act.kind ≠ 6 ∧ (s.ts h).act.kind ≠ 7 := by
        rw [ha]
        rcases lM_two y with ⟨ey, e2⟩ | ⟨ey, e2⟩ <;> rw [e2] at hob <;> rw [ey]
        · obtain rfl | rfl | rfl | rfl : o = 1 ∨ o = 2 ∨ o = 3 ∨ o = 4 := by omega
          all_goals exact ⟨by simp [lRound], by simp [lRound], by simp [lRound], by simp [lRound]⟩
        · obtain rfl | rfl | rfl | rfl | rfl : o = 1 ∨ o = 2 ∨ o = 3 ∨ o = 4 ∨ o = 5 := by omega
          all_goals exact ⟨by simp [lRound], by simp [lRound], by simp [lRound], by simp [lRound]⟩
      refine hno h hh ?_
      have hts := H.ts h hh
      unfold how
      rw [if_neg (by rw [hts]; simp), if_neg ?_, if_neg (fun k => k.elim (fun k => hk.1 k.1) (fun k => hk.2.1 k.1)), if_neg (fun k => hk.2.1 k.1), if_neg (fun k => hk.2.2.1 k.1), if_neg (fun k => hk.2.2.2 k.1)]
      rw [hts, if_pos rfl]
      show ¬ (lTask y h times).length ≤ c h * lM y + o
      rw [lTask_len]
      have := Nat.mul_le_mul_right (lM y) hc
      rw [Nat.succ_eq_add_one, Nat.add_mul, Nat.one_mul] at this
      omega
  refine ⟨ho0, fun i hi => ?_⟩
  subst ho0
  by_cases e : c i = times
  · exact e
  · exfalso
    have hc : c i < times := by have := H.le i hi; omega
    have ha := H.act hi hc
    have hz : (if i = h then 0 else 0) = 0 := by split <;> rfl
    rw [hz] at ha
    have ha : (s.ts i).act = ⟨1, 2, 0, 0⟩ := by rw [ha]; rfl
    have hts := H.ts i hi
    rw [hz] at hts
    have hlk := H.lk
    rw [if_pos rfl] at hlk
    refine hno i hi ?_
    unfold how
    rw [if_neg (by rw [hts]; simp), if_neg ?_, ha]
    · dsimp only
      rw [if_neg (by rintro (⟨_, k⟩ | ⟨k, _⟩) <;> first | omega | (have : (0 : Int) ≤ s.locks 2 := k; omega)), if_neg (by omega), if_neg (by omega), if_neg (by omega)]
    · rw [hts]
      show ¬ (lTask y i times).length ≤ c i * lM y + 0
      rw [lTask_len]
      have := Nat.mul_le_mul_right (lM y) hc
      rw [Nat.succ_eq_add_one, Nat.add_mul, Nat.one_mul] at this
      rcases lM_two y with ⟨ey, e2⟩ | ⟨ey, e2⟩ <;> omega
theorem LI.bound (H : LI y n times c h o s) (hn : n ≤ 7) (ht : times ≤ 8) : s.trace.length ≤ 400 := by
  have h1 := totL_le H.le
  have h2 : n * times ≤ 7 * 8 := Nat.mul_le_mul hn ht
  have h3 := H.tr
  have h4 := H.ho.1
  rcases lM_two y with ⟨ey, e2⟩ | ⟨ey, e2⟩ <;> rw [e2] at h3 h4 <;> omega
end
theorem lTasks_len (y : Bool) (n times : Nat) : (lTasks y n times).length = n := by simp [lTasks]
theorem locks_end (y : Bool) {n times : Nat} (h2 : n ≤ 7) (h4 : times ≤ 8) (picks : List Nat) : ∃ s, all picks 65536 (begin_ (lTasks y n times) 1) = s ∧ s.n = n ∧ (∀ i, i < n → how s (s.ts i) = 1) ∧ ∃ q : Nat, s.regs 0 = (q : Int) ∧ q * 2 = times * n * (n + 1) := by
  have h0 : LI y n times (fun _ => 0) 0 0 (begin_ (lTasks y n times) 1) := by
    have hz : ∀ m, sumL m (fun _ => 0) = 0 ∧ totL m (fun _ => 0) = 0 := fun m => by
      induction m with
      | zero => exact ⟨rfl, rfl⟩
      | succ m ih => simp [sumL, totL, ih.1, ih.2]
    refine ⟨lTasks_len y n times, fun i hi => ?_, ⟨by rcases lM_two y with ⟨_, e⟩ | ⟨_, e⟩ <;> omega, fun e => absurd rfl e⟩, fun _ _ => Nat.zero_le _, rfl, ?_, fun e => absurd e (by omega), ?_⟩
    · show T.mk ((lTasks y n times).getD i []) 0 (-1) 0 false 0 = _
      rw [List.getD_eq_getElem?_getD, List.getElem?_eq_getElem (by rw [lTasks_len]; exact hi)]
      simp [lTasks]
    · rw [(hz n).1, if_neg (by rcases lM_two y with ⟨_, e⟩ | ⟨_, e⟩ <;> omega)]
      rfl
    · rw [(hz n).2]
      rfl
  obtain ⟨⟨c, h, o, H⟩, hr⟩ := all_end (Inv := fun s => ∃ c h o, LI y n times c h o s) (B := 400) picks (fun s i ⟨c, h, o, H⟩ hi hh => H.step h2 h4 hi hh) (fun s ⟨c, h, o, H⟩ => H.bound h2 h4) 65536 _ ⟨_, _, _, h0⟩ (by omega)
  refine ⟨_, rfl, H.sn, ?_⟩
  generalize all picks 65536 (begin_ (lTasks y n times) 1) = s at H hr ⊢
  obtain ⟨ho, hc⟩ := H.stop hr
  subst ho
  refine ⟨fun i hi => ?_, _, H.r0, ?_⟩
  · unfold how
    have hts := H.ts i hi
    rw [if_neg (by rw [hts]; simp), if_pos]
    rw [hts]
    show (lTask y i times).length ≤ c i * lM y + _
    rw [lTask_len, hc i hi]
    omega
  · rw [if_neg (by rcases lM_two y with ⟨_, e⟩ | ⟨_, e⟩ <;> omega)]
    exact sumL_all hc
end Go.Proofs.Ytompelilflckkaa
