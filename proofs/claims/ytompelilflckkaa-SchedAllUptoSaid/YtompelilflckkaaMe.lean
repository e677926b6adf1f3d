/-
  The document's own run in memory: how it lies there, and what a store makes of it.
-/
import Derived.Test.YtompelilflckkaaMd
import Derived.Test.YtompelilflckkaaMa
import Derived.Test.YtompelilflckkaaMb
import Derived.Test.YtompelilflckkaaMc
import Derived.Test.YtompelilflckkaaProg
import Derived.StillTailTactics
import Derived.BigQuiet
import Derived.LoopN
import Derived.WalkLawsBesides
import Derived.Deep.RegionHeld3
import Derived.Deep.RegionLaw
set_option linter.unusedSimpArgs false
set_option linter.unusedVariables false
namespace Go.Proofs.Ytompelilflckkaa
open Go.RowKit Go.Fl

/-- A task's own cells, as they stand. -/
structure RT where
  at_ : Int
  wait : Int
  guard : Int
  how : Int
  num : Int
/-- What the cells hold. -/
def spec2 (tv : Value) (s : S) : Nat → FS := fun k =>
  if k = 0 then .val tv
  else if k < 5 then .val (iv (s.locks (k - 1) + 1))
  else if k < 9 then .row 3 1 (s.conds (k - 5)).length (nats (s.conds (k - 5)))
  else if k < 13 then .row 2 1 (s.queues (k - 9)).length (ints (s.queues (k - 9)))
  else if k < 21 then .val (iv (s.regs (k - 13)))
  else if k = 21 then .val (iv s.room)
  else .val (iv s.last)
section
variable {tv : Value} {s : S} {k : Nat}
theorem spec2_t : spec2 tv s 0 = .val tv := rfl
theorem spec2_lock (hk : k < 4) : spec2 tv s (1 + k) = .val (iv (s.locks k + 1)) := by
  unfold spec2; rw [if_neg (by omega), if_pos (by omega), Nat.add_sub_cancel_left]
theorem spec2_cond (hk : k < 4) : spec2 tv s (5 + k) = .row 3 1 (s.conds k).length (nats (s.conds k)) := by
  unfold spec2; rw [if_neg (by omega), if_neg (by omega), if_pos (by omega), Nat.add_sub_cancel_left]
theorem spec2_queue (hk : k < 4) : spec2 tv s (9 + k) = .row 2 1 (s.queues k).length (ints (s.queues k)) := by
  unfold spec2; rw [if_neg (by omega), if_neg (by omega), if_neg (by omega), if_pos (by omega), Nat.add_sub_cancel_left]
theorem spec2_reg (hk : k < 8) : spec2 tv s (13 + k) = .val (iv (s.regs k)) := by
  unfold spec2; rw [if_neg (by omega), if_neg (by omega), if_neg (by omega), if_neg (by omega), if_pos (by omega), Nat.add_sub_cancel_left]
theorem spec2_room : spec2 tv s 21 = .val (iv s.room) := by
  unfold spec2; rw [if_neg (by omega), if_neg (by omega), if_neg (by omega), if_neg (by omega), if_neg (by omega), if_pos rfl]
theorem spec2_last : spec2 tv s 22 = .val (iv s.last) := by
  unfold spec2; rw [if_neg (by omega), if_neg (by omega), if_neg (by omega), if_neg (by omega), if_neg (by omega), if_neg (by omega)]
theorem spec2_elem {e : Nat} (h : (spec2 tv s k).elem = some e) : e = 3 ∨ e = 2 := by
  unfold spec2 at h
  by_cases h1 : k = 0
  · rw [if_pos h1] at h; cases h
  rw [if_neg h1] at h
  by_cases h1 : k < 5
  · rw [if_pos h1] at h; cases h
  rw [if_neg h1] at h
  by_cases h1 : k < 9
  · rw [if_pos h1] at h; injection h with h; omega
  rw [if_neg h1] at h
  by_cases h1 : k < 13
  · rw [if_pos h1] at h; injection h with h; omega
  rw [if_neg h1] at h
  by_cases h1 : k < 21
  · rw [if_pos h1] at h; cases h
  rw [if_neg h1] at h
  by_cases h1 : k = 21
  · rw [if_pos h1] at h; cases h
  rw [if_neg h1] at h
  cases h
theorem spec2_setLock (x : Nat) (v : Int) {j : Nat} (hj : j ≠ 1 + x) : spec2 tv (s.setLock x v) j = spec2 tv s j :=
  ite_cg (fun _ => rfl) fun _ => ite_cg (fun _ => by
    show FS.val (iv (upd s.locks x v (j - 1) + 1)) = _
    rw [upd_ne _ _ _ _ (by omega)]) fun _ => rfl
theorem spec2_setCond (x : Nat) (v : List Nat) {j : Nat} (hj : j ≠ 5 + x) : spec2 tv (s.setCond x v) j = spec2 tv s j :=
  ite_cg (fun _ => rfl) fun _ => ite_cg (fun _ => rfl) fun _ => ite_cg (fun _ => by
    show FS.row 3 1 (upd s.conds x v (j - 5)).length (nats (upd s.conds x v (j - 5))) = _
    rw [upd_ne _ _ _ _ (by omega)]) fun _ => rfl
theorem spec2_setQueue (x : Nat) (v : List Int) {j : Nat} (hj : j ≠ 9 + x) : spec2 tv (s.setQueue x v) j = spec2 tv s j :=
  ite_cg (fun _ => rfl) fun _ => ite_cg (fun _ => rfl) fun _ => ite_cg (fun _ => rfl) fun _ => ite_cg (fun _ => by
    show FS.row 2 1 (upd s.queues x v (j - 9)).length (ints (upd s.queues x v (j - 9))) = _
    rw [upd_ne _ _ _ _ (by omega)]) fun _ => rfl
theorem spec2_setReg (x : Nat) (v : Int) {j : Nat} (hj : j ≠ 13 + x) : spec2 tv (s.setReg x v) j = spec2 tv s j :=
  ite_cg (fun _ => rfl) fun _ => ite_cg (fun _ => rfl) fun _ => ite_cg (fun _ => rfl) fun _ => ite_cg (fun _ => rfl) fun _ => ite_cg (fun _ => by
    show FS.val (iv (upd s.regs x v (j - 13))) = _
    rw [upd_ne _ _ _ _ (by omega)]) fun _ => rfl
theorem spec2_setLast (v : Int) {j : Nat} (hj : j < 22) : spec2 tv { s with last := v } j = spec2 tv s j :=
  ite_cg (fun _ => rfl) fun _ => ite_cg (fun _ => rfl) fun _ => ite_cg (fun _ => rfl) fun _ => ite_cg (fun _ => rfl) fun _ => ite_cg (fun _ => rfl) fun _ => ite_cg (fun _ => rfl) fun h => by omega
end
/-- A task's six cells in the tasks' block. -/
def RTc (cs : Array Value) (p : Nat) (v : Value) (x : RT) : Prop :=
  cs[p]? = some v ∧ cs[p + 1]? = some (iv x.at_) ∧ cs[p + 2]? = some (iv x.wait) ∧ cs[p + 3]? = some (iv x.guard) ∧ cs[p + 4]? = some (iv x.how) ∧ cs[p + 5]? = some (iv x.num)
/-- The tasks, n of them, from o on in block g. -/
def Tks (w : World) (g o n : Nat) (vs : Nat → Value) (raw : Nat → RT) : Prop := 0 < n → ∃ cs, Blk w g 68 cs ∧ ∀ i, i < n → RTc cs (o + i * 6) (vs i) (raw i)
/-- What is of none of the run's own types stays. -/
def TF (w w' : World) : Prop := ∀ (b t : Nat) (cs : Array Value), Blk w b t cs → t ≠ 66 → t ≠ 68 → t ≠ 3 → t ≠ 2 → w'.heap[b]? = w.heap[b]?
structure BT (base : Nat) (w w' : World) : Prop extends Below base w w' where
  tf : TF w w'
theorem BT.refl (base : Nat) (w : World) : BT base w w := ⟨Below.refl _ _, fun _ _ _ _ _ _ _ _ => rfl⟩
theorem BT.trans {base : Nat} {a b c : World} (h : BT base a b) (k : BT base b c) : BT base a c :=
  ⟨h.toBelow.trans k.toBelow, fun q t cs hb e1 e2 e3 e4 => by
    have h1 := h.tf q t cs hb e1 e2 e3 e4
    have hb2 : Blk b q t cs := h1.trans hb
    exact (k.tf q t cs hb2 e1 e2 e3 e4).trans h1⟩
theorem BT.of_only {base : Nat} {w w' : World} (ho : Only [] w w') (hB : base ≤ w.heap.size) : BT base w w' :=
  ⟨Below.of_only ho hB, fun q t cs hb _ _ _ _ => ho.block q hb.lt (by simp)⟩
/-- The run: in block r; its tasks in block g. -/
structure R2 (w : World) (base r g o : Nat) (f : Nat → Value) (tv : Value) (vs : Nat → Value) (acts : Nat → List A) (raw : Nat → RT) (s : S) : Prop where
  rc : Rec w base r 66 23 f (spec2 tv s)
  tv_ : ∃ a cap, tv = .slice a s.n cap ∧ (0 < s.n → a = some ⟨g, o, none⟩)
  tk : Tks w g o s.n vs raw
  gb : 0 < s.n → base ≤ g
  ac : ∀ i, i < s.n → ActsV base w (vs i) (acts i)
section
variable {w w1 : World} {base r g o : Nat} {f : Nat → Value} {tv : Value} {vs : Nat → Value} {acts : Nat → List A} {raw : Nat → RT} {s : S}
theorem R2.base_le (h : R2 w base r g o f tv vs acts raw s) : base ≤ w.heap.size := Nat.le_trans h.rc.ge (Nat.le_of_lt h.rc.blk.lt)
theorem R2.lt (h : R2 w base r g o f tv vs acts raw s) : r < w.heap.size := h.rc.blk.lt
theorem R2.only0 (h : R2 w base r g o f tv vs acts raw s) (ho : Only [] w w1) : R2 w1 base r g o f tv vs acts raw s ∧ BT base w w1 := by
  have hb := BT.of_only ho h.base_le
  refine ⟨⟨h.rc.only0 ho, h.tv_, fun h0 => ?_, h.gb, fun i hi => (h.ac i hi).below hb.toBelow⟩, hb⟩
  obtain ⟨cs, h1, h2⟩ := h.tk h0
  exact ⟨cs, h1.only ho (by simp), h2⟩
theorem R2.put (h : R2 w base r g o f tv vs acts raw s) {k : Nat} (hk : k < 23) {u : Value} {s' : S} (hn : s'.n = s.n) (hg : w.grownBy w1 ((spec2 tv s k).own (f k))) (hu : (spec2 tv s' k).ok w1 u)
    (hown : ∀ g, (spec2 tv s' k).own u = some g → (spec2 tv s k).own (f k) = some g ∨ w.heap.size ≤ g) (hsp : ∀ j, j < 23 → j ≠ k → spec2 tv s' j = spec2 tv s j) :
    R2 (w1.setCell ⟨r, k, none⟩ u) base r g o (upd f k u) tv vs acts raw s' ∧ BT base w (w1.setCell ⟨r, k, none⟩ u) ∧ Blk w1 r 66 (cellsN 23 f) := by
  obtain ⟨h1, h2, h3, h4⟩ := h.rc.put hk hg hu (fun e => by have := spec2_elem e; omega) hown hsp
  have hbt : BT base w (w1.setCell ⟨r, k, none⟩ u) := ⟨h2, fun q t cs hb e1 e2 e3 e4 => h3.block q hb.lt fun hm => by
    simp only [List.mem_cons, Option.mem_toList] at hm
    rcases hm with hm | hm
    · subst hm
      exact e1 (hb.ty_eq h.rc.blk)
    · obtain ⟨e, cur, he, hb2⟩ := h.rc.ownty hk hm
      have h7 : t = e := hb.ty_eq hb2
      have h8 := spec2_elem he
      omega⟩
  refine ⟨⟨h1, by rw [hn]; exact h.tv_, fun h0 => ?_, fun h0 => h.gb (hn ▸ h0), fun i hi => (h.ac i (hn ▸ hi)).below h2⟩, hbt, h4⟩
  rw [hn] at h0 ⊢
  obtain ⟨cs, h5, h6⟩ := h.tk h0
  refine ⟨cs, Blk.only h5 h3 fun hm => ?_, h6⟩
  simp only [List.mem_cons, Option.mem_toList] at hm
  rcases hm with hm | hm
  · have := Blk.ty_eq (hm ▸ h5 : Blk w r 68 _) h.rc.blk
    cases this
  · obtain ⟨e, cur, he, hb⟩ := h.rc.ownty hk hm
    have h7 : e = 68 := hb.ty_eq h5
    have h8 := spec2_elem he
    rw [h7] at h8
    simp at h8
theorem R2.lock (h : R2 w base r g o f tv vs acts raw s) {k : Nat} (hk : k < 4) (v u : Int) (hv : u = v + 1) : R2 (w.setCell ⟨r, 1 + k, none⟩ (iv u)) base r g o (upd f (1 + k) (iv u)) tv vs acts raw (s.setLock k v) ∧ BT base w (w.setCell ⟨r, 1 + k, none⟩ (iv u)) := by
  subst hv
  have e : spec2 tv (s.setLock k v) (1 + k) = .val (iv (v + 1)) := by rw [spec2_lock hk]; show FS.val (iv (upd s.locks k v k + 1)) = _; rw [upd_same]
  obtain ⟨h1, h2, _⟩ := h.put (k := 1 + k) (u := iv (v + 1)) (s' := s.setLock k v) (w1 := w) (by omega) rfl (grown_refl _ _) (by rw [e]; rfl) (fun g hg => by rw [e] at hg; cases hg) (fun j _ hj => spec2_setLock k v hj)
  exact ⟨h1, h2⟩
theorem R2.reg (h : R2 w base r g o f tv vs acts raw s) {k : Nat} (hk : k < 8) (v : Int) : R2 (w.setCell ⟨r, 13 + k, none⟩ (iv v)) base r g o (upd f (13 + k) (iv v)) tv vs acts raw (s.setReg k v) ∧ BT base w (w.setCell ⟨r, 13 + k, none⟩ (iv v)) := by
  have e : spec2 tv (s.setReg k v) (13 + k) = .val (iv v) := by rw [spec2_reg hk]; show FS.val (iv (upd s.regs k v k)) = _; rw [upd_same]
  obtain ⟨h1, h2, _⟩ := h.put (k := 13 + k) (u := iv v) (s' := s.setReg k v) (w1 := w) (by omega) rfl (grown_refl _ _) (by rw [e]; rfl) (fun g hg => by rw [e] at hg; cases hg) (fun j _ hj => spec2_setReg k v hj)
  exact ⟨h1, h2⟩
theorem R2.last (h : R2 w base r g o f tv vs acts raw s) (v : Int) : R2 (w.setCell ⟨r, 22, none⟩ (iv v)) base r g o (upd f 22 (iv v)) tv vs acts raw { s with last := v } ∧ BT base w (w.setCell ⟨r, 22, none⟩ (iv v)) := by
  have e : spec2 tv { s with last := v } 22 = .val (iv v) := spec2_last
  obtain ⟨h1, h2, _⟩ := h.put (k := 22) (u := iv v) (s' := { s with last := v }) (w1 := w) (by omega) rfl (grown_refl _ _) (by rw [e]; rfl) (fun g hg => by rw [e] at hg; cases hg) (fun j _ hj => spec2_setLast v (by omega))
  exact ⟨h1, h2⟩
theorem R2.cond (h : R2 w base r g o f tv vs acts raw s) {k : Nat} (hk : k < 4) {v : Value} {l : List Nat} (hS : Sl w1 3 1 v l.length (nats l)) (hg : w.grownBy w1 (f (5 + k)).ownBlock) (hown : ∀ g, v.ownBlock = some g → (f (5 + k)).ownBlock = some g ∨ w.heap.size ≤ g) :
    R2 (w1.setCell ⟨r, 5 + k, none⟩ v) base r g o (upd f (5 + k) v) tv vs acts raw (s.setCond k l) ∧ BT base w (w1.setCell ⟨r, 5 + k, none⟩ v) ∧ Blk w1 r 66 (cellsN 23 f) := by
  have e : spec2 tv (s.setCond k l) (5 + k) = .row 3 1 l.length (nats l) := by rw [spec2_cond hk]; show FS.row 3 1 (upd s.conds k l k).length (nats (upd s.conds k l k)) = _; rw [upd_same]
  exact h.put (k := 5 + k) (u := v) (s' := s.setCond k l) (w1 := w1) (by omega) rfl (by rw [spec2_cond hk]; exact hg) (by rw [e]; exact hS) (fun g hg => by rw [e] at hg; rw [spec2_cond hk]; exact hown g hg) (fun j _ hj => spec2_setCond k l hj)
theorem R2.queue (h : R2 w base r g o f tv vs acts raw s) {k : Nat} (hk : k < 4) {v : Value} {l : List Int} (hS : Sl w1 2 1 v l.length (ints l)) (hg : w.grownBy w1 (f (9 + k)).ownBlock) (hown : ∀ g, v.ownBlock = some g → (f (9 + k)).ownBlock = some g ∨ w.heap.size ≤ g) :
    R2 (w1.setCell ⟨r, 9 + k, none⟩ v) base r g o (upd f (9 + k) v) tv vs acts raw (s.setQueue k l) ∧ BT base w (w1.setCell ⟨r, 9 + k, none⟩ v) ∧ Blk w1 r 66 (cellsN 23 f) := by
  have e : spec2 tv (s.setQueue k l) (9 + k) = .row 2 1 l.length (ints l) := by rw [spec2_queue hk]; show FS.row 2 1 (upd s.queues k l k).length (ints (upd s.queues k l k)) = _; rw [upd_same]
  exact h.put (k := 9 + k) (u := v) (s' := s.setQueue k l) (w1 := w1) (by omega) rfl (by rw [spec2_queue hk]; exact hg) (by rw [e]; exact hS) (fun g hg => by rw [e] at hg; rw [spec2_queue hk]; exact hown g hg) (fun j _ hj => spec2_setQueue k l hj)
/-- A task's cell is turned. -/
theorem R2.raw_ (h : R2 w base r g o f tv vs acts raw s) {i j : Nat} (hi : i < s.n) (hj : 1 ≤ j) (hj6 : j < 6) {u : Value} {x : RT}
    (hx : ∀ cs p v, RTc cs p v (raw i) → RTc (cs.setIfInBounds (p + j) u) p v x) :
    R2 (w.setCell ⟨g, o + i * 6 + j, none⟩ u) base r g o f tv vs acts (upd raw i x) s ∧ BT base w (w.setCell ⟨g, o + i * 6 + j, none⟩ u) := by
  have h0 : 0 < s.n := by omega
  obtain ⟨cs, h1, h2⟩ := h.tk h0
  have hgb := h.gb h0
  have ho : Only [g] w (w.setCell ⟨g, o + i * 6 + j, none⟩ u) := (Only.refl _ w).setCell (.inl (by simp)) _
  have hb : BT base w (w.setCell ⟨g, o + i * 6 + j, none⟩ u) := ⟨⟨ho.os, ho.tape, ho.output, ho.size, fun k hk => ho.block k (by have := h.base_le; omega) (by simp; rintro rfl; omega)⟩, fun q t cs2 hq e1 e2 e3 e4 => ho.block q hq.lt fun hm => by
    obtain rfl : q = g := by simpa using hm
    exact e2 (hq.ty_eq h1)⟩
  refine ⟨⟨h.rc.only ho fun g' hg => ?_, h.tv_, fun _ => ⟨_, h1.set_ _ u, fun k hk => ?_⟩, h.gb, fun k hk => (h.ac k hk).below hb.toBelow⟩, hb⟩
  · obtain rfl : g' = g := by simpa using hg
    exact ⟨68, _, h1, by decide, fun k _ e => by have := spec2_elem e; omega⟩
  · by_cases hki : k = i
    · subst hki
      rw [upd_same]
      exact hx cs _ _ (h2 k hk)
    · rw [upd_ne _ _ _ _ hki]
      obtain ⟨a0, a1, a2, a3, a4, a5⟩ := h2 k hk
      have hfar : ∀ q, q ≠ o + i * 6 + j → (cs.setIfInBounds (o + i * 6 + j) u)[q]? = cs[q]? := fun q hq => by
        rw [Array.getElem?_setIfInBounds, if_neg (fun e => hq e.symm)]
      exact ⟨(hfar _ (by omega)).trans a0, (hfar _ (by omega)).trans a1, (hfar _ (by omega)).trans a2, (hfar _ (by omega)).trans a3, (hfar _ (by omega)).trans a4, (hfar _ (by omega)).trans a5⟩
/-- A task's cells. -/
theorem R2.cells (h : R2 w base r g o f tv vs acts raw s) {i : Nat} (hi : i < s.n) : w.cell? ⟨g, o + i * 6, none⟩ = some (vs i) ∧ w.cell? ⟨g, o + i * 6 + 1, none⟩ = some (iv (raw i).at_) ∧ w.cell? ⟨g, o + i * 6 + 2, none⟩ = some (iv (raw i).wait) ∧
    w.cell? ⟨g, o + i * 6 + 3, none⟩ = some (iv (raw i).guard) ∧ w.cell? ⟨g, o + i * 6 + 4, none⟩ = some (iv (raw i).how) ∧ w.cell? ⟨g, o + i * 6 + 5, none⟩ = some (iv (raw i).num) ∧ g < w.heap.size ∧ ∀ k, w.frozen? ⟨g, k, none⟩ = false := by
  obtain ⟨cs, h1, h2⟩ := h.tk (by omega)
  obtain ⟨hc, hf, hl⟩ := h1.facts
  obtain ⟨a0, a1, a2, a3, a4, a5⟩ := h2 i hi
  exact ⟨(hc _).trans a0, (hc _).trans a1, (hc _).trans a2, (hc _).trans a3, (hc _).trans a4, (hc _).trans a5, hl, hf⟩
end
theorem RTc.at_ {cs : Array Value} {p : Nat} {v : Value} {x : RT} (h : RTc cs p v x) (u : Int) : RTc (cs.setIfInBounds (p + 1) (iv u)) p v { x with at_ := u } := by
  obtain ⟨a0, a1, a2, a3, a4, a5⟩ := h
  have hb := (Array.getElem?_eq_some_iff.1 a1).1
  refine ⟨?_, ?_, ?_, ?_, ?_, ?_⟩ <;> rw [Array.getElem?_setIfInBounds]
  · rw [if_neg (by omega)]; exact a0
  · rw [if_pos rfl, if_pos hb]
  · rw [if_neg (by omega)]; exact a2
  · rw [if_neg (by omega)]; exact a3
  · rw [if_neg (by omega)]; exact a4
  · rw [if_neg (by omega)]; exact a5
theorem RTc.wait_ {cs : Array Value} {p : Nat} {v : Value} {x : RT} (h : RTc cs p v x) (u : Int) : RTc (cs.setIfInBounds (p + 2) (iv u)) p v { x with wait := u } := by
  obtain ⟨a0, a1, a2, a3, a4, a5⟩ := h
  have hb := (Array.getElem?_eq_some_iff.1 a2).1
  refine ⟨?_, ?_, ?_, ?_, ?_, ?_⟩ <;> rw [Array.getElem?_setIfInBounds]
  · rw [if_neg (by omega)]; exact a0
  · rw [if_neg (by omega)]; exact a1
  · rw [if_pos rfl, if_pos hb]
  · rw [if_neg (by omega)]; exact a3
  · rw [if_neg (by omega)]; exact a4
  · rw [if_neg (by omega)]; exact a5
theorem RTc.guard_ {cs : Array Value} {p : Nat} {v : Value} {x : RT} (h : RTc cs p v x) (u : Int) : RTc (cs.setIfInBounds (p + 3) (iv u)) p v { x with guard := u } := by
  obtain ⟨a0, a1, a2, a3, a4, a5⟩ := h
  have hb := (Array.getElem?_eq_some_iff.1 a3).1
  refine ⟨?_, ?_, ?_, ?_, ?_, ?_⟩ <;> rw [Array.getElem?_setIfInBounds]
  · rw [if_neg (by omega)]; exact a0
  · rw [if_neg (by omega)]; exact a1
  · rw [if_neg (by omega)]; exact a2
  · rw [if_pos rfl, if_pos hb]
  · rw [if_neg (by omega)]; exact a4
  · rw [if_neg (by omega)]; exact a5
theorem RTc.how_ {cs : Array Value} {p : Nat} {v : Value} {x : RT} (h : RTc cs p v x) (u : Int) : RTc (cs.setIfInBounds (p + 4) (iv u)) p v { x with how := u } := by
  obtain ⟨a0, a1, a2, a3, a4, a5⟩ := h
  have hb := (Array.getElem?_eq_some_iff.1 a4).1
  refine ⟨?_, ?_, ?_, ?_, ?_, ?_⟩ <;> rw [Array.getElem?_setIfInBounds]
  · rw [if_neg (by omega)]; exact a0
  · rw [if_neg (by omega)]; exact a1
  · rw [if_neg (by omega)]; exact a2
  · rw [if_neg (by omega)]; exact a3
  · rw [if_pos rfl, if_pos hb]
  · rw [if_neg (by omega)]; exact a5
theorem RTc.num_ {cs : Array Value} {p : Nat} {v : Value} {x : RT} (h : RTc cs p v x) (u : Int) : RTc (cs.setIfInBounds (p + 5) (iv u)) p v { x with num := u } := by
  obtain ⟨a0, a1, a2, a3, a4, a5⟩ := h
  have hb := (Array.getElem?_eq_some_iff.1 a5).1
  refine ⟨?_, ?_, ?_, ?_, ?_, ?_⟩ <;> rw [Array.getElem?_setIfInBounds]
  · rw [if_neg (by omega)]; exact a0
  · rw [if_neg (by omega)]; exact a1
  · rw [if_neg (by omega)]; exact a2
  · rw [if_neg (by omega)]; exact a3
  · rw [if_neg (by omega)]; exact a4
  · rw [if_pos rfl, if_pos hb]
end Go.Proofs.Ytompelilflckkaa
/-
  The document's own run: a task's end; a panic.
-/
namespace Go.Proofs.Ytompelilflckkaa
open Go.RowKit Go.Fl

set_option maxRecDepth 100000 in
set_option maxHeartbeats 3200000 in
theorem ends_yes {w : World} {B p m c : Nat} {a : Option Addr} {x : Int} {cs : Array Value} (hb : Blk w B 68 cs) (h0 : cs[p]? = some (.slice a m c)) (h1 : cs[p + 1]? = some (iv x)) {v4 : Value} (h4 : cs[p + 4]? = some v4) (hx : (m : Int) ≤ x) :
    Calls Try.prog 36 #[.pointer (some ⟨B, p, none⟩)] w fun e w' => e = .returned (.tuple #[]) ∧ ∃ k, w' = (w.drewN k).setCell ⟨B, p + 4, none⟩ (iv 1) := by
  obtain ⟨hc, hf, hl⟩ := hb.facts
  have c0 : w.cell? ⟨B, p, none⟩ = some (.slice a m c) := (hc _).trans h0
  have c1 : w.cell? ⟨B, p + 1, none⟩ = some (iv x) := (hc _).trans h1
  have hpz : decide ((m : Int) ≤ x) = true := decide_eq_true hx
  have c4 : w.cell? ⟨B, p + 4, none⟩ = some v4 := (hc _).trans h4
  clear h0 h1 h4 hb hc
  go_enter Try.func36, Try.ntmps36
  go_wp2
  go_quiet (fail)
  go_wp2
  go_end0
  exact ⟨rfl, _, rfl⟩
set_option maxRecDepth 100000 in
set_option maxHeartbeats 3200000 in
theorem ends_no {w : World} {B p m c : Nat} {a : Option Addr} {x : Int} {cs : Array Value} (hb : Blk w B 68 cs) (h0 : cs[p]? = some (.slice a m c)) (h1 : cs[p + 1]? = some (iv x)) (hx : x < (m : Int)) :
    Calls Try.prog 36 #[.pointer (some ⟨B, p, none⟩)] w fun e w' => e = .returned (.tuple #[]) ∧ ∃ k, w' = w.drewN k := by
  obtain ⟨hc, hf, hl⟩ := hb.facts
  have c0 : w.cell? ⟨B, p, none⟩ = some (.slice a m c) := (hc _).trans h0
  have c1 : w.cell? ⟨B, p + 1, none⟩ = some (iv x) := (hc _).trans h1
  have hpz : decide ((m : Int) ≤ x) = false := decide_eq_false (by omega)
  clear h0 h1 hb hc
  go_enter Try.func36, Try.ntmps36
  go_wp2
  go_quiet (fail)
  go_wp2
  go_end0
  exact ⟨rfl, _, rfl⟩
end Go.Proofs.Ytompelilflckkaa
/-
  The document's own run: a task's end, of a run; a panic.
-/
namespace Go.Proofs.Ytompelilflckkaa
open Go.RowKit Go.Fl

/-- Behind its last act a task has ended. -/
def RT.ended (m : Nat) (x : RT) : RT := if (m : Int) ≤ x.at_ then { x with how := 1 } else x
theorem upd_self {α : Type} (f : Nat → α) (i : Nat) : upd f i (f i) = f := by
  funext j
  by_cases h : j = i
  · subst h; rw [upd_same]
  · rw [upd_ne _ _ _ _ h]
theorem upd_upd {α : Type} (f : Nat → α) (i : Nat) (x y : α) : upd (upd f i x) i y = upd f i y := by
  funext j
  by_cases h : j = i
  · subst h; rw [upd_same, upd_same]
  · rw [upd_ne _ _ _ _ h, upd_ne _ _ _ _ h, upd_ne _ _ _ _ h]
section
variable {w : World} {base r g o : Nat} {f : Nat → Value} {tv : Value} {vs : Nat → Value} {acts : Nat → List A} {raw : Nat → RT} {s : S} {i : Nat}
theorem ends_r (h : R2 w base r g o f tv vs acts raw s) (hi : i < s.n) : Calls Try.prog 36 #[.pointer (some ⟨g, o + i * 6, none⟩)] w fun e w' => e = .returned (.tuple #[]) ∧ R2 w' base r g o f tv vs acts (upd raw i ((raw i).ended (acts i).length)) s ∧ BT base w w' := by
  obtain ⟨cs, h1, h2⟩ := h.tk (by omega)
  obtain ⟨a0, a1, a2, a3, a4, a5⟩ := h2 i hi
  obtain ⟨a, cap, hv, _, _, _⟩ := h.ac i hi
  rw [hv] at a0
  unfold RT.ended
  by_cases hx : ((acts i).length : Int) ≤ (raw i).at_
  · refine (ends_yes h1 a0 a1 a4 hx).mono fun e w' => ?_
    rintro ⟨rfl, k, rfl⟩
    obtain ⟨h3, b3⟩ := h.only0 ((Only.refl [] w).drewN k)
    obtain ⟨h4, b4⟩ := h3.raw_ hi (j := 4) (by omega) (by omega) (fun cs p v hx => hx.how_ 1)
    rw [if_pos hx]
    exact ⟨rfl, h4, b3.trans b4⟩
  · refine (ends_no h1 a0 a1 (by omega)).mono fun e w' => ?_
    rintro ⟨rfl, k, rfl⟩
    obtain ⟨h3, b3⟩ := h.only0 ((Only.refl [] w).drewN k)
    rw [if_neg hx, upd_self]
    exact ⟨rfl, h3, b3⟩
/-- Where the tasks are. -/
theorem R2.tcell (h : R2 w base r g o f tv vs acts raw s) (h0 : 0 < s.n) : ∃ cap, tv = .slice (some ⟨g, o, none⟩) s.n cap ∧ w.cell? ⟨r, 0, none⟩ = some (.slice (some ⟨g, o, none⟩) s.n cap) := by
  obtain ⟨a, cap, rfl, ha⟩ := h.tv_
  rw [ha h0] at h
  exact ⟨cap, by rw [ha h0], h.rc.cellv (k := 0) (by omega) rfl⟩
theorem R2.frz (h : R2 w base r g o f tv vs acts raw s) : ∀ k, w.frozen? ⟨r, k, none⟩ = false := fun k => h.rc.blk.frozen k
theorem R2.gne (h : R2 w base r g o f tv vs acts raw s) (h0 : 0 < s.n) : g ≠ r := by
  rintro rfl
  obtain ⟨cs, h1, _⟩ := h.tk h0
  have := h1.ty_eq h.rc.blk
  cases this
set_option maxRecDepth 100000 in
set_option maxHeartbeats 3200000 in
theorem panics_die (h : R2 w base r g o f tv vs acts raw s) (hi : i < s.n) (n : Int) (hg : (raw i).guard < 0) :
    Calls Try.prog 37 #[.pointer (some ⟨r, 0, none⟩), iv i, iv n] w fun e w' => e = .returned (.tuple #[]) ∧ R2 w' base r g o f tv vs acts (upd raw i { raw i with how := 2, num := n }) s ∧ BT base w w' := by
  obtain ⟨cap, htv, c0⟩ := h.tcell (by omega)
  obtain ⟨k0, k1, k2, k3, k4, k5, hl, hf⟩ := h.cells hi
  have hlr := h.lt
  have hz : (i : Int) < (s.n : Int) := by omega
  obtain ⟨h1, b1⟩ := h.raw_ hi (j := 4) (by omega) (by omega) (fun cs p v hx => hx.how_ 2)
  obtain ⟨h2, b2⟩ := h1.raw_ hi (j := 5) (u := iv n) (x := { raw i with how := 2, num := n }) (by omega) (by omega) (fun cs p v hx => by rw [upd_same] at hx; exact hx.num_ n)
  rw [upd_upd] at h2
  have H2 := Lib.hid h2
  have B2 := Lib.hid (b1.trans b2)
  clear h h1 h2 b1 b2 htv
  generalize raw i = x at *
  go_enter Try.func37, Try.ntmps37
  go_wp2
  exact bodyPost_ret (results_none rfl _ _ _) rfl ⟨rfl, H2.out, B2.out⟩
set_option maxRecDepth 100000 in
set_option maxHeartbeats 3200000 in
theorem panics_caught (h : R2 w base r g o f tv vs acts raw s) (hi : i < s.n) (n : Int) (hg : 0 ≤ (raw i).guard) :
    Calls Try.prog 37 #[.pointer (some ⟨r, 0, none⟩), iv i, iv n] w fun e w' => e = .returned (.tuple #[]) ∧ (∃ f', R2 w' base r g o f' tv vs acts (upd raw i (RT.ended (acts i).length { raw i with at_ := (raw i).guard, guard := -1 })) (s.setReg 7 n)) ∧ BT base w w' := by
  obtain ⟨cap, htv, c0⟩ := h.tcell (by omega)
  obtain ⟨k0, k1, k2, k3, k4, k5, hl, hf⟩ := h.cells hi
  have hlr := h.lt
  have hne := h.gne (by omega)
  have hz : (i : Int) < (s.n : Int) := by omega
  have c20 := h.rc.cellv (k := 20) (by omega) (spec2_reg (k := 7) (by omega))
  have hfr := h.frz
  obtain ⟨h0, b0⟩ := h.reg (k := 7) (by omega) n
  obtain ⟨h1, b1⟩ := h0.raw_ hi (j := 1) (u := iv (raw i).guard) (by omega) (by omega) (fun cs p v hx => hx.at_ (raw i).guard)
  obtain ⟨h2, b2⟩ := h1.raw_ hi (j := 3) (u := iv (-1)) (x := { raw i with at_ := (raw i).guard, guard := -1 }) (by omega) (by omega) (fun cs p v hx => by rw [upd_same] at hx; exact hx.guard_ (-1))
  rw [upd_upd] at h2
  have HE := Lib.hid (ends_r h2 (i := i) hi)
  rw [upd_same, upd_upd] at HE
  have B2 := Lib.hid ((b0.trans b1).trans b2)
  clear h h0 h1 h2 b0 b1 b2 htv
  generalize raw i = x at *
  go_enter Try.func37, Try.ntmps37
  go_wp2_with fail
  refine HE.out.mono ?_
  clear HE
  rintro e w' ⟨rfl, hR, hB⟩
  have HR := Lib.hid hR
  have HB := Lib.hid (B2.out.trans hB)
  clear hR hB
  go_wp2
  go_end0
  exact ⟨rfl, ⟨_, HR.out⟩, HB.out⟩
end
end Go.Proofs.Ytompelilflckkaa
/-
  The document's own run: why a task waits.
-/
namespace Go.Proofs.Ytompelilflckkaa
open Go.RowKit Go.Fl

/-- Why a task would wait, as the document tells it. -/
def whyM (s : S) (a : A) (wait : Int) : Int :=
  if wait = 1 then 5
  else if wait = 2 ∧ s.locks a.b.toNat + 1 ≠ 0 then 4
  else if a.kind = 1 ∧ s.locks a.a.toNat + 1 ≠ 0 then 4
  else if a.kind = 6 ∧ s.room ≤ (s.queues a.a.toNat).length then 6
  else if a.kind = 7 ∧ s.queues a.a.toNat = [] then 7
  else 0
section
variable {w : World} {base r g o : Nat} {f : Nat → Value} {tv : Value} {vs : Nat → Value} {acts : Nat → List A} {raw : Nat → RT} {s : S} {i : Nat}
theorem R2.lcell (h : R2 w base r g o f tv vs acts raw s) {k : Nat} (hk : k < 4) : w.cell? ⟨r, 1 + k, none⟩ = some (iv (s.locks k + 1)) := h.rc.cellv (by omega) (spec2_lock hk)
theorem R2.qcell (h : R2 w base r g o f tv vs acts raw s) {k : Nat} (hk : k < 4) : ∃ a c, f (9 + k) = .slice a (s.queues k).length c ∧ w.cell? ⟨r, 9 + k, none⟩ = some (.slice a (s.queues k).length c) := by
  have hS := h.rc.row (k := 9 + k) (by omega) (spec2_queue hk)
  obtain ⟨a, c, hv, _, _⟩ := hS.shape
  exact ⟨a, c, hv, by rw [← hv]; exact h.rc.cell (by omega)⟩
theorem R2.roomcell (h : R2 w base r g o f tv vs acts raw s) : w.cell? ⟨r, 21, none⟩ = some (iv s.room) := h.rc.cellv (by omega) spec2_room
/-- A task's act. -/
theorem R2.acell (h : R2 w base r g o f tv vs acts raw s) (hi : i < s.n) {p : Nat} (hp : p < (acts i).length) : ∃ ga oa c, vs i = .slice (some ⟨ga, oa, none⟩) (acts i).length c ∧ ga < w.heap.size ∧ w.cell? ⟨ga, oa + p * 4, none⟩ = some (iv (acts i)[p].kind) ∧ w.cell? ⟨ga, oa + p * 4 + 1, none⟩ = some (iv (acts i)[p].a) ∧
    w.cell? ⟨ga, oa + p * 4 + 2, none⟩ = some (iv (acts i)[p].b) ∧ w.cell? ⟨ga, oa + p * 4 + 3, none⟩ = some (iv (acts i)[p].n) := by
  obtain ⟨a, cap, hv, _, _, hc⟩ := h.ac i hi
  obtain ⟨ga, oa, rfl, _, hg, hh⟩ := hc (by omega)
  exact ⟨ga, oa, cap, hv, hg, hh p hp⟩
end
end Go.Proofs.Ytompelilflckkaa
/-
  SchedAll: so many steps as are made; what of other types is turned leaves the document's run as it is.
-/
namespace Go.Proofs.Ytompelilflckkaa
open Go.RowKit Go.Fl

def fewM (n : Int) : Int := if 3000 < n ∧ n ≤ 65536 then 3000 else n
set_option maxRecDepth 100000 in
theorem few_ok (w : World) (n : Int) : Calls Try.prog 14 #[iv n] w fun e w' => e = .returned (iv (fewM n)) ∧ w' = w := by
  unfold fewM
  by_cases h1 : 3000 < n
  · by_cases h2 : n ≤ 65536
    · rw [if_pos ⟨h1, h2⟩]
      go_enter Try.func14, Try.ntmps14
      go_wp2
      exact bodyPost_ret (results_tmp rfl _ _ _) rfl ⟨rfl, rfl⟩
    · rw [if_neg (fun h => h2 h.2)]
      go_enter Try.func14, Try.ntmps14
      go_wp2
      exact bodyPost_ret (results_tmp rfl _ _ _) rfl ⟨rfl, rfl⟩
  · rw [if_neg (fun h => h1 h.1)]
    go_enter Try.func14, Try.ntmps14
    go_wp2
    exact bodyPost_ret (results_tmp rfl _ _ _) rfl ⟨rfl, rfl⟩
section
variable {w w1 : World} {base r g o : Nat} {f : Nat → Value} {tv : Value} {vs : Nat → Value} {acts : Nat → List A} {raw : Nat → RT} {s : S}
/-- What turns only blocks of other types, at or above the base, leaves the run. -/
theorem R2.other (h : R2 w base r g o f tv vs acts raw s) {T : List Nat} (ho : Only T w w1) (hT : ∀ b ∈ T, base ≤ b ∧ ∃ (t : Nat) (cs : Array Value), Blk w b t cs ∧ t ≠ 66 ∧ t ≠ 68 ∧ t ≠ 3 ∧ t ≠ 2) : R2 w1 base r g o f tv vs acts raw s ∧ Below base w w1 := by
  have hb : Below base w w1 := ⟨ho.os, ho.tape, ho.output, ho.size, fun i hi => ho.block i (Nat.lt_of_lt_of_le hi h.base_le) fun hm => by have := (hT i hm).1; omega⟩
  refine ⟨⟨h.rc.only ho fun b hm => ?_, h.tv_, fun h0 => ?_, h.gb, fun i hi => (h.ac i hi).below hb⟩, hb⟩
  · obtain ⟨_, t, cs, hb, e1, e2, e3, e4⟩ := hT b hm
    exact ⟨t, cs, hb, e1, fun k _ e => by have := spec2_elem e; omega⟩
  · obtain ⟨cs, h1, h2⟩ := h.tk h0
    refine ⟨cs, h1.only ho fun hm => ?_, h2⟩
    obtain ⟨_, t, cs2, hb, e1, e2, e3, e4⟩ := hT g hm
    exact e2 (hb.ty_eq h1)
end
end Go.Proofs.Ytompelilflckkaa
