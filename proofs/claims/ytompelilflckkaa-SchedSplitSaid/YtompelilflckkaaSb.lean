/-
  The scheduler's run in memory: how it lies there, and what a store makes of it.
-/
import Derived.Test.YtompelilflckkaaSa
namespace Go.Proofs.Ytompelilflckkaa
open Go.RowKit Go.Fl

abbrev iv (x : Int) : Value := .int .i64 x
def ptrs (b : Nat → Nat) (n : Nat) : List Value := (List.range n).map fun i => .pointer (some ⟨b i, 0, none⟩)
def nats (l : List Nat) : List Value := l.map fun (i : Nat) => iv i
def ints (l : List Int) : List Value := l.map fun i => iv i
def turns (l : List (Nat × Nat)) : List Value := l.flatMap fun p => [iv p.1, iv p.2]
theorem turns_append (a b : List (Nat × Nat)) : turns (a ++ b) = turns a ++ turns b := by simp [turns]
theorem turns_length (a : List (Nat × Nat)) : (turns a).length = a.length * 2 := by
  induction a with
  | nil => rfl
  | cons x a ih => simp only [turns, List.flatMap_cons, List.length_append, List.length_cons, List.length_nil] at ih ⊢; omega
theorem ite_cg {c : Prop} [Decidable c] {α : Type} {a a' b b' : α} (h1 : c → a = a') (h2 : ¬ c → b = b') : (if c then a else b) = (if c then a' else b') := by
  by_cases h : c
  · rw [if_pos h, if_pos h]; exact h1 h
  · rw [if_neg h, if_neg h]; exact h2 h
/-- What a run's cells hold. -/
def spec (b : Nat → Nat) (s : S) : Nat → FS := fun k =>
  if k = 0 then .row 77 1 s.n (ptrs b s.n)
  else if k = 1 then .val (iv s.room)
  else if k < 6 then .val (iv (s.locks (k - 2)))
  else if k < 10 then .row 3 1 (s.conds (k - 6)).length (nats (s.conds (k - 6)))
  else if k < 14 then .row 2 1 (s.queues (k - 10)).length (ints (s.queues (k - 10)))
  else if k < 22 then .val (iv (s.regs (k - 14)))
  else if k = 22 then .val (iv s.last)
  else .row 39 2 s.trace.length (turns s.trace)
section
variable {b : Nat → Nat} {s : S} {k : Nat}
theorem spec_lock (hk : k < 4) : spec b s (2 + k) = .val (iv (s.locks k)) := by
  unfold spec; rw [if_neg (by omega), if_neg (by omega), if_pos (by omega), Nat.add_sub_cancel_left]
theorem spec_cond (hk : k < 4) : spec b s (6 + k) = .row 3 1 (s.conds k).length (nats (s.conds k)) := by
  unfold spec; rw [if_neg (by omega), if_neg (by omega), if_neg (by omega), if_pos (by omega), Nat.add_sub_cancel_left]
theorem spec_queue (hk : k < 4) : spec b s (10 + k) = .row 2 1 (s.queues k).length (ints (s.queues k)) := by
  unfold spec; rw [if_neg (by omega), if_neg (by omega), if_neg (by omega), if_neg (by omega), if_pos (by omega), Nat.add_sub_cancel_left]
theorem spec_reg (hk : k < 8) : spec b s (14 + k) = .val (iv (s.regs k)) := by
  unfold spec; rw [if_neg (by omega), if_neg (by omega), if_neg (by omega), if_neg (by omega), if_neg (by omega), if_pos (by omega), Nat.add_sub_cancel_left]
theorem spec_elem {e : Nat} (h : (spec b s k).elem = some e) : e = 77 ∨ e = 3 ∨ e = 2 ∨ e = 39 := by
  unfold spec at h
  by_cases h1 : k = 0
  · rw [if_pos h1] at h; injection h with h; omega
  rw [if_neg h1] at h
  by_cases h1 : k = 1
  · rw [if_pos h1] at h; cases h
  rw [if_neg h1] at h
  by_cases h1 : k < 6
  · rw [if_pos h1] at h; cases h
  rw [if_neg h1] at h
  by_cases h1 : k < 10
  · rw [if_pos h1] at h; injection h with h; omega
  rw [if_neg h1] at h
  by_cases h1 : k < 14
  · rw [if_pos h1] at h; injection h with h; omega
  rw [if_neg h1] at h
  by_cases h1 : k < 22
  · rw [if_pos h1] at h; cases h
  rw [if_neg h1] at h
  by_cases h1 : k = 22
  · rw [if_pos h1] at h; cases h
  rw [if_neg h1] at h
  injection h with h; omega
theorem spec_setLock (x : Nat) (v : Int) {j : Nat} (hj : j ≠ 2 + x) : spec b (s.setLock x v) j = spec b s j :=
  ite_cg (fun _ => rfl) fun _ => ite_cg (fun _ => rfl) fun _ => ite_cg (fun _ => by
    show FS.val (iv (upd s.locks x v (j - 2))) = _
    rw [upd_ne _ _ _ _ (by omega)]) fun _ => rfl
theorem spec_setCond (x : Nat) (v : List Nat) {j : Nat} (hj : j ≠ 6 + x) : spec b (s.setCond x v) j = spec b s j :=
  ite_cg (fun _ => rfl) fun _ => ite_cg (fun _ => rfl) fun _ => ite_cg (fun _ => rfl) fun _ => ite_cg (fun _ => by
    show FS.row 3 1 (upd s.conds x v (j - 6)).length (nats (upd s.conds x v (j - 6))) = _
    rw [upd_ne _ _ _ _ (by omega)]) fun _ => rfl
theorem spec_setQueue (x : Nat) (v : List Int) {j : Nat} (hj : j ≠ 10 + x) : spec b (s.setQueue x v) j = spec b s j :=
  ite_cg (fun _ => rfl) fun _ => ite_cg (fun _ => rfl) fun _ => ite_cg (fun _ => rfl) fun _ => ite_cg (fun _ => rfl) fun _ => ite_cg (fun _ => by
    show FS.row 2 1 (upd s.queues x v (j - 10)).length (ints (upd s.queues x v (j - 10))) = _
    rw [upd_ne _ _ _ _ (by omega)]) fun _ => rfl
theorem spec_setReg (x : Nat) (v : Int) {j : Nat} (hj : j ≠ 14 + x) : spec b (s.setReg x v) j = spec b s j :=
  ite_cg (fun _ => rfl) fun _ => ite_cg (fun _ => rfl) fun _ => ite_cg (fun _ => rfl) fun _ => ite_cg (fun _ => rfl) fun _ => ite_cg (fun _ => rfl) fun _ => ite_cg (fun _ => by
    show FS.val (iv (upd s.regs x v (j - 14))) = _
    rw [upd_ne _ _ _ _ (by omega)]) fun _ => rfl
theorem spec_setLast (v : Int) {j : Nat} (hj : j ≠ 22) : spec b { s with last := v } j = spec b s j :=
  ite_cg (fun _ => rfl) fun _ => ite_cg (fun _ => rfl) fun _ => ite_cg (fun _ => rfl) fun _ => ite_cg (fun _ => rfl) fun _ => ite_cg (fun _ => rfl) fun _ => ite_cg (fun _ => rfl) fun _ => ite_cg (fun h => absurd h hj) fun _ => rfl
theorem spec_setTrace (l : List (Nat × Nat)) {j : Nat} (hj : j < 23) : spec b { s with trace := l } j = spec b s j :=
  ite_cg (fun _ => rfl) fun _ => ite_cg (fun _ => rfl) fun _ => ite_cg (fun _ => rfl) fun _ => ite_cg (fun _ => rfl) fun _ => ite_cg (fun _ => rfl) fun _ => ite_cg (fun _ => rfl) fun _ => ite_cg (fun _ => rfl) fun _ => by omega
end

/-- A task's cells. -/
def TaskB (w : World) (g : Nat) (v : Value) (t : T) : Prop := Blk w g 80 #[v, iv t.pc, iv t.guard, iv t.wait, .bool t.died, iv t.num]
def actV (a : A) : Value := .agg #[iv a.kind, iv a.a, iv a.b, iv a.n]
/-- A list of acts that was given. -/
def ActsV (base : Nat) (w : World) (v : Value) (l : List A) : Prop :=
  ∃ a cap, v = .slice a l.length cap ∧ l.length ≤ cap ∧ cap ≤ maxLen ∧ (0 < l.length → ∃ g off, a = some ⟨g, off, none⟩ ∧ g < base ∧ g < w.heap.size ∧
    ∀ i (h : i < l.length), w.cell? ⟨g, off + i * 4, none⟩ = some (iv l[i].kind) ∧ w.cell? ⟨g, off + i * 4 + 1, none⟩ = some (iv l[i].a) ∧ w.cell? ⟨g, off + i * 4 + 2, none⟩ = some (iv l[i].b) ∧ w.cell? ⟨g, off + i * 4 + 3, none⟩ = some (iv l[i].n))
theorem ActsV.below {base : Nat} {w w' : World} {v : Value} {l : List A} (h : ActsV base w v l) (hb : Below base w w') : ActsV base w' v l := by
  obtain ⟨a, cap, rfl, h1, h2, h3⟩ := h
  refine ⟨a, cap, rfl, h1, h2, fun h0 => ?_⟩
  obtain ⟨g, off, rfl, hg, hgs, hh⟩ := h3 h0
  have e : ∀ j, w'.cell? ⟨g, j, none⟩ = w.cell? ⟨g, j, none⟩ := fun j => World.cell?_of_block (w := w) (hb.block g hg)
  refine ⟨g, off, rfl, hg, Nat.lt_of_lt_of_le hgs hb.size, fun i hi => ?_⟩
  rw [e, e, e, e]
  exact hh i hi
/-- The run in memory: its own block r, its tasks' blocks b; all that was given lies below base. -/
structure RS (w : World) (base r : Nat) (f : Nat → Value) (b : Nat → Nat) (s : S) : Prop where
  rc : Rec w base r 76 24 f (spec b s)
  task : ∀ i, i < s.n → ∃ v, TaskB w (b i) v (s.ts i) ∧ ActsV base w v (s.ts i).acts
  tb : ∀ i, i < s.n → base ≤ b i
  bdis : ∀ i j, i < s.n → j < s.n → i ≠ j → b i ≠ b j
section
variable {w w1 : World} {base r : Nat} {f : Nat → Value} {b : Nat → Nat} {s : S}
theorem RS.base_le (h : RS w base r f b s) : base ≤ w.heap.size := Nat.le_trans h.rc.ge (Nat.le_of_lt h.rc.blk.lt)
theorem Below.of_only {B : Nat} (ho : Only [] w w1) (hB : B ≤ w.heap.size) : Below B w w1 := ⟨ho.os, ho.tape, ho.output, ho.size, fun i hi => ho.block i (by omega) (by simp)⟩
theorem RS.only0 (h : RS w base r f b s) (ho : Only [] w w1) : RS w1 base r f b s ∧ Below base w w1 := by
  have hb := Below.of_only ho h.base_le
  exact ⟨⟨h.rc.only0 ho, fun i hi => by
    obtain ⟨v, h1, h2⟩ := h.task i hi
    exact ⟨v, Blk.only h1 ho (by simp), h2.below hb⟩, h.tb, h.bdis⟩, hb⟩
theorem RS.put (h : RS w base r f b s) {k : Nat} (hk : k < 24) {u : Value} {s' : S} (hn : s'.n = s.n) (hts : s'.ts = s.ts) (hg : w.grownBy w1 ((spec b s k).own (f k))) (hu : (spec b s' k).ok w1 u)
    (hown : ∀ g, (spec b s' k).own u = some g → (spec b s k).own (f k) = some g ∨ w.heap.size ≤ g) (hsp : ∀ j, j < 24 → j ≠ k → spec b s' j = spec b s j) :
    RS (w1.setCell ⟨r, k, none⟩ u) base r (upd f k u) b s' ∧ Below base w (w1.setCell ⟨r, k, none⟩ u) ∧ Blk w1 r 76 (cellsN 24 f) := by
  obtain ⟨h1, h2, h3, h4⟩ := h.rc.put hk hg hu (fun e => by have := spec_elem e; omega) hown hsp
  refine ⟨⟨h1, fun i hi => ?_, fun i hi => h.tb i (hn ▸ hi), fun i j hi hj => h.bdis i j (hn ▸ hi) (hn ▸ hj)⟩, h2, h4⟩
  obtain ⟨v, h5, h6⟩ := h.task i (hn ▸ hi)
  rw [hts]
  refine ⟨v, Blk.only h5 h3 fun hm => ?_, h6.below h2⟩
  simp only [List.mem_cons, Option.mem_toList] at hm
  rcases hm with hm | hm
  · have := Blk.ty_eq (hm ▸ h5 : Blk w r 80 _) h.rc.blk
    cases this
  · obtain ⟨e, cur, he, hb⟩ := h.rc.ownty hk hm
    have h7 : e = 80 := hb.ty_eq h5
    have h8 := spec_elem he
    rw [h7] at h8
    simp at h8
theorem grown_refl (w : World) (x : Option Nat) : w.grownBy w x := ⟨rfl, rfl, rfl, Nat.le_refl _, fun _ _ _ => rfl⟩
theorem RS.lock (h : RS w base r f b s) {k : Nat} (hk : k < 4) (v : Int) : RS (w.setCell ⟨r, 2 + k, none⟩ (iv v)) base r (upd f (2 + k) (iv v)) b (s.setLock k v) ∧ Below base w (w.setCell ⟨r, 2 + k, none⟩ (iv v)) := by
  have e : spec b (s.setLock k v) (2 + k) = .val (iv v) := by rw [spec_lock hk]; show FS.val (iv (upd s.locks k v k)) = _; rw [upd_same]
  obtain ⟨h1, h2, _⟩ := h.put (k := 2 + k) (u := iv v) (s' := s.setLock k v) (w1 := w) (by omega) rfl rfl (grown_refl _ _) (by rw [e]; rfl) (fun g hg => by rw [e] at hg; cases hg) (fun j _ hj => spec_setLock k v hj)
  exact ⟨h1, h2⟩
theorem RS.reg (h : RS w base r f b s) {k : Nat} (hk : k < 8) (v : Int) : RS (w.setCell ⟨r, 14 + k, none⟩ (iv v)) base r (upd f (14 + k) (iv v)) b (s.setReg k v) ∧ Below base w (w.setCell ⟨r, 14 + k, none⟩ (iv v)) := by
  have e : spec b (s.setReg k v) (14 + k) = .val (iv v) := by rw [spec_reg hk]; show FS.val (iv (upd s.regs k v k)) = _; rw [upd_same]
  obtain ⟨h1, h2, _⟩ := h.put (k := 14 + k) (u := iv v) (s' := s.setReg k v) (w1 := w) (by omega) rfl rfl (grown_refl _ _) (by rw [e]; rfl) (fun g hg => by rw [e] at hg; cases hg) (fun j _ hj => spec_setReg k v hj)
  exact ⟨h1, h2⟩
theorem RS.last (h : RS w base r f b s) (v : Int) : RS (w.setCell ⟨r, 22, none⟩ (iv v)) base r (upd f 22 (iv v)) b { s with last := v } ∧ Below base w (w.setCell ⟨r, 22, none⟩ (iv v)) := by
  obtain ⟨h1, h2, _⟩ := h.put (k := 22) (u := iv v) (s' := { s with last := v }) (w1 := w) (by omega) rfl rfl (grown_refl _ _) (show FS.ok w (iv v) (.val (iv v)) from rfl) (fun g hg => nomatch (show FS.own (iv v) (.val (iv v)) = some g from hg)) (fun j _ hj => spec_setLast v hj)
  exact ⟨h1, h2⟩
theorem RS.cond (h : RS w base r f b s) {k : Nat} (hk : k < 4) {v : Value} {l : List Nat} (hS : Sl w1 3 1 v l.length (nats l)) (hg : w.grownBy w1 (f (6 + k)).ownBlock) (hown : ∀ g, v.ownBlock = some g → (f (6 + k)).ownBlock = some g ∨ w.heap.size ≤ g) :
    RS (w1.setCell ⟨r, 6 + k, none⟩ v) base r (upd f (6 + k) v) b (s.setCond k l) ∧ Below base w (w1.setCell ⟨r, 6 + k, none⟩ v) ∧ Blk w1 r 76 (cellsN 24 f) := by
  have e : spec b (s.setCond k l) (6 + k) = .row 3 1 l.length (nats l) := by rw [spec_cond hk]; show FS.row 3 1 (upd s.conds k l k).length (nats (upd s.conds k l k)) = _; rw [upd_same]
  exact h.put (k := 6 + k) (u := v) (s' := s.setCond k l) (w1 := w1) (by omega) rfl rfl (by rw [spec_cond hk]; exact hg) (by rw [e]; exact hS) (fun g hg => by rw [e] at hg; rw [spec_cond hk]; exact hown g hg) (fun j _ hj => spec_setCond k l hj)
theorem RS.queue (h : RS w base r f b s) {k : Nat} (hk : k < 4) {v : Value} {l : List Int} (hS : Sl w1 2 1 v l.length (ints l)) (hg : w.grownBy w1 (f (10 + k)).ownBlock) (hown : ∀ g, v.ownBlock = some g → (f (10 + k)).ownBlock = some g ∨ w.heap.size ≤ g) :
    RS (w1.setCell ⟨r, 10 + k, none⟩ v) base r (upd f (10 + k) v) b (s.setQueue k l) ∧ Below base w (w1.setCell ⟨r, 10 + k, none⟩ v) ∧ Blk w1 r 76 (cellsN 24 f) := by
  have e : spec b (s.setQueue k l) (10 + k) = .row 2 1 l.length (ints l) := by rw [spec_queue hk]; show FS.row 2 1 (upd s.queues k l k).length (ints (upd s.queues k l k)) = _; rw [upd_same]
  exact h.put (k := 10 + k) (u := v) (s' := s.setQueue k l) (w1 := w1) (by omega) rfl rfl (by rw [spec_queue hk]; exact hg) (by rw [e]; exact hS) (fun g hg => by rw [e] at hg; rw [spec_queue hk]; exact hown g hg) (fun j _ hj => spec_setQueue k l hj)
theorem RS.trace (h : RS w base r f b s) {v : Value} {l : List (Nat × Nat)} (hS : Sl w1 39 2 v l.length (turns l)) (hg : w.grownBy w1 (f 23).ownBlock) (hown : ∀ g, v.ownBlock = some g → (f 23).ownBlock = some g ∨ w.heap.size ≤ g) :
    RS (w1.setCell ⟨r, 23, none⟩ v) base r (upd f 23 v) b { s with trace := l } ∧ Below base w (w1.setCell ⟨r, 23, none⟩ v) ∧ Blk w1 r 76 (cellsN 24 f) :=
  h.put (k := 23) (u := v) (s' := { s with trace := l }) (w1 := w1) (by omega) rfl rfl hg (show FS.ok w1 v (.row 39 2 l.length (turns l)) from hS) (fun g hg => hown g hg) (fun j hj hne => spec_setTrace l (by omega))
/-- A task is turned in its own block. -/
theorem RS.setT (h : RS w base r f b s) {i j : Nat} (hi : i < s.n) {u : Value} {t : T} (ha : t.acts = (s.ts i).acts)
    (hc : ∀ v, SetEq (#[v, iv (s.ts i).pc, iv (s.ts i).guard, iv (s.ts i).wait, .bool (s.ts i).died, iv (s.ts i).num].setIfInBounds j u) #[v, iv t.pc, iv t.guard, iv t.wait, .bool t.died, iv t.num]) :
    RS (w.setCell ⟨b i, j, none⟩ u) base r f b (s.setT i t) ∧ Below base w (w.setCell ⟨b i, j, none⟩ u) := by
  obtain ⟨v, h1, h2⟩ := h.task i hi
  have ho : Only [b i] w (w.setCell ⟨b i, j, none⟩ u) := (Only.refl _ w).setCell (.inl (by simp)) _
  have hb : Below base w (w.setCell ⟨b i, j, none⟩ u) := ⟨ho.os, ho.tape, ho.output, ho.size, fun k hk => ho.block k (by have := h.base_le; omega) (by simp; rintro rfl; have := h.tb i hi; omega)⟩
  refine ⟨⟨h.rc.only ho fun g hg => ?_, fun k hk => ?_, h.tb, h.bdis⟩, hb⟩
  · obtain rfl : g = b i := by simpa using hg
    exact ⟨80, _, h1, by decide, fun k _ e => by have := spec_elem e; omega⟩
  · by_cases hki : k = i
    · subst hki
      show ∃ v, TaskB _ _ v (upd s.ts k t k) ∧ ActsV _ _ v (upd s.ts k t k).acts
      rw [upd_same]
      exact ⟨v, Blk.set' h1 (hc v), by rw [ha]; exact h2.below hb⟩
    · obtain ⟨v2, h3, h4⟩ := h.task k hk
      show ∃ v, TaskB _ _ v (upd s.ts i t k) ∧ ActsV _ _ v (upd s.ts i t k).acts
      rw [upd_ne _ _ _ _ hki]
      exact ⟨v2, Blk.only h3 ho (by simpa using h.bdis k i hk hi hki), h4.below hb⟩
end
theorem setT_setT (s : S) (i : Nat) (t u : T) : (s.setT i t).setT i u = s.setT i u := by
  have : upd (upd s.ts i t) i u = upd s.ts i u := by
    funext j
    by_cases h : j = i
    · subst h; rw [upd_same, upd_same]
    · rw [upd_ne _ _ _ _ h, upd_ne _ _ _ _ h, upd_ne _ _ _ _ h]
  show { s with ts := upd (upd s.ts i t) i u } = _
  rw [this]
  rfl
theorem setT_ts (s : S) (i : Nat) (t : T) : (s.setT i t).ts i = t := upd_same _ _ _
end Go.Proofs.Ytompelilflckkaa
