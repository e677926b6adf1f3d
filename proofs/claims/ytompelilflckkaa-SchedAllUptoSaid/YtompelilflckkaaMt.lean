/-
  The document's own run: why a task waits: its walk.
-/
import Derived.Test.YtompelilflckkaaMe
set_option linter.unusedSimpArgs false
set_option linter.unusedVariables false
namespace Go.Proofs.Ytompelilflckkaa
open Go.RowKit Go.Fl

section
variable {w : World} {base r g o : Nat} {f : Nat → Value} {tv : Value} {vs : Nat → Value} {acts : Nat → List A} {raw : Nat → RT} {s : S} {i p : Nat} {K n : Int} {x y : Nat}
set_option maxRecDepth 100000 in
set_option maxHeartbeats 3200000 in
theorem why_one (h : R2 w base r g o f tv vs acts raw s) (hi : i < s.n) (hp : p < (acts i).length) (hat : (raw i).at_ = p) (ha : (acts i)[p] = ⟨K, x, y, n⟩) (hw1 : (raw i).wait = 1) :
    Calls Try.prog 27 #[.pointer (some ⟨r, 0, none⟩), iv i] w fun e w' => e = .returned (iv 5) ∧ Only [] w w' := by
  obtain ⟨cap, htv, c0⟩ := h.tcell (by omega)
  obtain ⟨k0, k1, k2, k3, k4, k5, hl, hf⟩ := h.cells hi
  obtain ⟨ga, oa, ca, hv, hgs, q0, q1, q2, q3⟩ := h.acell hi hp
  have hz : (i : Int) < (s.n : Int) := by omega
  have hpz : (p : Int) < ((acts i).length : Int) := by omega
  rw [hat] at k1
  rw [hv] at k0
  rw [ha] at q0 q1 q2 q3
  dsimp only at q0 q1 q2 q3
  obtain ⟨h2, _⟩ := h.only0 (((Only.refl [] w).alloc (.cells #[.slice (some ⟨ga, oa, none⟩) (acts i).length ca, iv p, iv (raw i).wait, iv (raw i).guard, iv (raw i).how, iv (raw i).num] 68)).alloc (.cells #[iv K, iv x, iv y, iv n] 47))
  have hb1 : Blk ((w.alloc (.cells #[.slice (some ⟨ga, oa, none⟩) (acts i).length ca, iv p, iv (raw i).wait, iv (raw i).guard, iv (raw i).how, iv (raw i).num] 68)).alloc (.cells #[iv K, iv x, iv y, iv n] 47)) w.heap.size 68 #[.slice (some ⟨ga, oa, none⟩) (acts i).length ca, iv p, iv (raw i).wait, iv (raw i).guard, iv (raw i).how, iv (raw i).num] := (Blk.new _ _ _).alloc _
  have hb2 : Blk ((w.alloc (.cells #[.slice (some ⟨ga, oa, none⟩) (acts i).length ca, iv p, iv (raw i).wait, iv (raw i).guard, iv (raw i).how, iv (raw i).num] 68)).alloc (.cells #[iv K, iv x, iv y, iv n] 47)) (w.heap.size + 1) 47 #[iv K, iv x, iv y, iv n] := by
    have := Blk.new (w.alloc (.cells #[.slice (some ⟨ga, oa, none⟩) (acts i).length ca, iv p, iv (raw i).wait, iv (raw i).guard, iv (raw i).how, iv (raw i).num] 68)) 47 #[iv K, iv x, iv y, iv n]
    simpa using this
  have HO2 := Lib.hid (((Only.refl [] w).alloc (.cells #[.slice (some ⟨ga, oa, none⟩) (acts i).length ca, iv p, iv (raw i).wait, iv (raw i).guard, iv (raw i).how, iv (raw i).num] 68)).alloc (.cells #[iv K, iv x, iv y, iv n] 47))
  have HH2 := Lib.hid h2
  have HB1 := Lib.hid hb1
  have HB2 := Lib.hid hb2
  clear h h2 hb1 hb2 htv hv ha hat
  generalize hwt : (raw i).wait = wt at *
  generalize (raw i).guard = gd at *
  generalize (raw i).how = hw at *
  generalize (raw i).num = nm at *
  subst hw1
  go_enter Try.func27, Try.ntmps27
  go_wp2
  exact bodyPost_ret (results_tmp rfl _ _ _) rfl ⟨rfl, HO2.out⟩
set_option maxRecDepth 100000 in
set_option maxHeartbeats 3200000 in
theorem why_two (h : R2 w base r g o f tv vs acts raw s) (hi : i < s.n) (hp : p < (acts i).length) (hat : (raw i).at_ = p) (ha : (acts i)[p] = ⟨3, x, y, n⟩) (hy : y < 4) (hw1 : (raw i).wait = 2) :
    Calls Try.prog 27 #[.pointer (some ⟨r, 0, none⟩), iv i] w fun e w' => e = .returned (iv (if s.locks y + 1 = 0 then 0 else 4)) ∧ Only [] w w' := by
  obtain ⟨K, hK⟩ : ∃ K : Int, K = 3 := ⟨_, rfl⟩
  rw [← hK] at ha
  obtain ⟨cap, htv, c0⟩ := h.tcell (by omega)
  obtain ⟨k0, k1, k2, k3, k4, k5, hl, hf⟩ := h.cells hi
  obtain ⟨ga, oa, ca, hv, hgs, q0, q1, q2, q3⟩ := h.acell hi hp
  have hz : (i : Int) < (s.n : Int) := by omega
  have hpz : (p : Int) < ((acts i).length : Int) := by omega
  rw [hat] at k1
  rw [hv] at k0
  rw [ha] at q0 q1 q2 q3
  dsimp only at q0 q1 q2 q3
  obtain ⟨h2, _⟩ := h.only0 (((Only.refl [] w).alloc (.cells #[.slice (some ⟨ga, oa, none⟩) (acts i).length ca, iv p, iv (raw i).wait, iv (raw i).guard, iv (raw i).how, iv (raw i).num] 68)).alloc (.cells #[iv K, iv x, iv y, iv n] 47))
  have hb1 : Blk ((w.alloc (.cells #[.slice (some ⟨ga, oa, none⟩) (acts i).length ca, iv p, iv (raw i).wait, iv (raw i).guard, iv (raw i).how, iv (raw i).num] 68)).alloc (.cells #[iv K, iv x, iv y, iv n] 47)) w.heap.size 68 #[.slice (some ⟨ga, oa, none⟩) (acts i).length ca, iv p, iv (raw i).wait, iv (raw i).guard, iv (raw i).how, iv (raw i).num] := (Blk.new _ _ _).alloc _
  have hb2 : Blk ((w.alloc (.cells #[.slice (some ⟨ga, oa, none⟩) (acts i).length ca, iv p, iv (raw i).wait, iv (raw i).guard, iv (raw i).how, iv (raw i).num] 68)).alloc (.cells #[iv K, iv x, iv y, iv n] 47)) (w.heap.size + 1) 47 #[iv K, iv x, iv y, iv n] := by
    have := Blk.new (w.alloc (.cells #[.slice (some ⟨ga, oa, none⟩) (acts i).length ca, iv p, iv (raw i).wait, iv (raw i).guard, iv (raw i).how, iv (raw i).num] 68)) 47 #[iv K, iv x, iv y, iv n]
    simpa using this
  have HO2 := Lib.hid (((Only.refl [] w).alloc (.cells #[.slice (some ⟨ga, oa, none⟩) (acts i).length ca, iv p, iv (raw i).wait, iv (raw i).guard, iv (raw i).how, iv (raw i).num] 68)).alloc (.cells #[iv K, iv x, iv y, iv n] 47))
  have HH2 := Lib.hid h2
  have HB1 := Lib.hid hb1
  have HB2 := Lib.hid hb2
  clear h h2 hb1 hb2 htv hv ha hat
  generalize hwt : (raw i).wait = wt at *
  generalize (raw i).guard = gd at *
  generalize (raw i).how = hw at *
  generalize (raw i).num = nm at *
  subst hw1
  have hyz : (y : Int) < 4 := by omega
  have c1 := HH2.out.lcell hy
  subst hK
  by_cases hlk : s.locks y + 1 = 0
  · rw [if_pos hlk]
    rw [hlk] at c1
    go_enter Try.func27, Try.ntmps27
    go_wp2
    go_quiet (fail)
    go_wp2
    go_quiet (fail)
    go_wp2
    go_quiet (fail)
    go_wp2
    go_quiet (fail)
    go_wp2
    exact bodyPost_ret (results_tmp rfl _ _ _) rfl ⟨rfl, by first | exact HO2.out.drewN _ | exact (HO2.out.drewN _).drewN _ | exact ((HO2.out.drewN _).drewN _).drewN _ | exact (((HO2.out.drewN _).drewN _).drewN _).drewN _⟩
  · rw [if_neg hlk]
    have hlz : (s.locks y + 1 == 0) = false := by simpa using hlk
    generalize s.locks y + 1 = lv at *
    go_enter Try.func27, Try.ntmps27
    go_wp2
    go_quiet (fail)
    go_wp2
    exact bodyPost_ret (results_tmp rfl _ _ _) rfl ⟨rfl, by first | exact HO2.out.drewN _ | exact (HO2.out.drewN _).drewN _ | exact ((HO2.out.drewN _).drewN _).drewN _ | exact (((HO2.out.drewN _).drewN _).drewN _).drewN _⟩
set_option maxRecDepth 100000 in
set_option maxHeartbeats 3200000 in
theorem why_lock (h : R2 w base r g o f tv vs acts raw s) (hi : i < s.n) (hp : p < (acts i).length) (hat : (raw i).at_ = p) (ha : (acts i)[p] = ⟨1, x, y, n⟩) (hx : x < 4) (hw1 : (raw i).wait = 0) :
    Calls Try.prog 27 #[.pointer (some ⟨r, 0, none⟩), iv i] w fun e w' => e = .returned (iv (if s.locks x + 1 = 0 then 0 else 4)) ∧ Only [] w w' := by
  obtain ⟨K, hK⟩ : ∃ K : Int, K = 1 := ⟨_, rfl⟩
  rw [← hK] at ha
  obtain ⟨cap, htv, c0⟩ := h.tcell (by omega)
  obtain ⟨k0, k1, k2, k3, k4, k5, hl, hf⟩ := h.cells hi
  obtain ⟨ga, oa, ca, hv, hgs, q0, q1, q2, q3⟩ := h.acell hi hp
  have hz : (i : Int) < (s.n : Int) := by omega
  have hpz : (p : Int) < ((acts i).length : Int) := by omega
  rw [hat] at k1
  rw [hv] at k0
  rw [ha] at q0 q1 q2 q3
  dsimp only at q0 q1 q2 q3
  obtain ⟨h2, _⟩ := h.only0 (((Only.refl [] w).alloc (.cells #[.slice (some ⟨ga, oa, none⟩) (acts i).length ca, iv p, iv (raw i).wait, iv (raw i).guard, iv (raw i).how, iv (raw i).num] 68)).alloc (.cells #[iv K, iv x, iv y, iv n] 47))
  have hb1 : Blk ((w.alloc (.cells #[.slice (some ⟨ga, oa, none⟩) (acts i).length ca, iv p, iv (raw i).wait, iv (raw i).guard, iv (raw i).how, iv (raw i).num] 68)).alloc (.cells #[iv K, iv x, iv y, iv n] 47)) w.heap.size 68 #[.slice (some ⟨ga, oa, none⟩) (acts i).length ca, iv p, iv (raw i).wait, iv (raw i).guard, iv (raw i).how, iv (raw i).num] := (Blk.new _ _ _).alloc _
  have hb2 : Blk ((w.alloc (.cells #[.slice (some ⟨ga, oa, none⟩) (acts i).length ca, iv p, iv (raw i).wait, iv (raw i).guard, iv (raw i).how, iv (raw i).num] 68)).alloc (.cells #[iv K, iv x, iv y, iv n] 47)) (w.heap.size + 1) 47 #[iv K, iv x, iv y, iv n] := by
    have := Blk.new (w.alloc (.cells #[.slice (some ⟨ga, oa, none⟩) (acts i).length ca, iv p, iv (raw i).wait, iv (raw i).guard, iv (raw i).how, iv (raw i).num] 68)) 47 #[iv K, iv x, iv y, iv n]
    simpa using this
  have HO2 := Lib.hid (((Only.refl [] w).alloc (.cells #[.slice (some ⟨ga, oa, none⟩) (acts i).length ca, iv p, iv (raw i).wait, iv (raw i).guard, iv (raw i).how, iv (raw i).num] 68)).alloc (.cells #[iv K, iv x, iv y, iv n] 47))
  have HH2 := Lib.hid h2
  have HB1 := Lib.hid hb1
  have HB2 := Lib.hid hb2
  clear h h2 hb1 hb2 htv hv ha hat
  generalize hwt : (raw i).wait = wt at *
  generalize (raw i).guard = gd at *
  generalize (raw i).how = hw at *
  generalize (raw i).num = nm at *
  subst hw1
  have hxz : (x : Int) < 4 := by omega
  have c1 := HH2.out.lcell hx
  subst hK
  by_cases hlk : s.locks x + 1 = 0
  · rw [if_pos hlk]
    rw [hlk] at c1
    go_enter Try.func27, Try.ntmps27
    go_wp2
    go_quiet (fail)
    go_wp2
    go_quiet (fail)
    go_wp2
    go_quiet (fail)
    go_wp2
    go_quiet (fail)
    go_wp2
    exact bodyPost_ret (results_tmp rfl _ _ _) rfl ⟨rfl, by first | exact HO2.out.drewN _ | exact (HO2.out.drewN _).drewN _ | exact ((HO2.out.drewN _).drewN _).drewN _ | exact (((HO2.out.drewN _).drewN _).drewN _).drewN _⟩
  · rw [if_neg hlk]
    have hlz : (s.locks x + 1 == 0) = false := by simpa using hlk
    generalize s.locks x + 1 = lv at *
    go_enter Try.func27, Try.ntmps27
    go_wp2
    go_quiet (fail)
    go_wp2
    go_quiet (fail)
    go_wp2
    exact bodyPost_ret (results_tmp rfl _ _ _) rfl ⟨rfl, by first | exact HO2.out.drewN _ | exact (HO2.out.drewN _).drewN _ | exact ((HO2.out.drewN _).drewN _).drewN _ | exact (((HO2.out.drewN _).drewN _).drewN _).drewN _⟩
set_option maxRecDepth 100000 in
set_option maxHeartbeats 3200000 in
theorem why_put (h : R2 w base r g o f tv vs acts raw s) (hi : i < s.n) (hp : p < (acts i).length) (hat : (raw i).at_ = p) (ha : (acts i)[p] = ⟨6, x, y, n⟩) (hx : x < 4) (hw1 : (raw i).wait = 0) :
    Calls Try.prog 27 #[.pointer (some ⟨r, 0, none⟩), iv i] w fun e w' => e = .returned (iv (if s.room ≤ (s.queues x).length then 6 else 0)) ∧ Only [] w w' := by
  obtain ⟨K, hK⟩ : ∃ K : Int, K = 6 := ⟨_, rfl⟩
  rw [← hK] at ha
  obtain ⟨cap, htv, c0⟩ := h.tcell (by omega)
  obtain ⟨k0, k1, k2, k3, k4, k5, hl, hf⟩ := h.cells hi
  obtain ⟨ga, oa, ca, hv, hgs, q0, q1, q2, q3⟩ := h.acell hi hp
  have hz : (i : Int) < (s.n : Int) := by omega
  have hpz : (p : Int) < ((acts i).length : Int) := by omega
  rw [hat] at k1
  rw [hv] at k0
  rw [ha] at q0 q1 q2 q3
  dsimp only at q0 q1 q2 q3
  obtain ⟨h2, _⟩ := h.only0 (((Only.refl [] w).alloc (.cells #[.slice (some ⟨ga, oa, none⟩) (acts i).length ca, iv p, iv (raw i).wait, iv (raw i).guard, iv (raw i).how, iv (raw i).num] 68)).alloc (.cells #[iv K, iv x, iv y, iv n] 47))
  have hb1 : Blk ((w.alloc (.cells #[.slice (some ⟨ga, oa, none⟩) (acts i).length ca, iv p, iv (raw i).wait, iv (raw i).guard, iv (raw i).how, iv (raw i).num] 68)).alloc (.cells #[iv K, iv x, iv y, iv n] 47)) w.heap.size 68 #[.slice (some ⟨ga, oa, none⟩) (acts i).length ca, iv p, iv (raw i).wait, iv (raw i).guard, iv (raw i).how, iv (raw i).num] := (Blk.new _ _ _).alloc _
  have hb2 : Blk ((w.alloc (.cells #[.slice (some ⟨ga, oa, none⟩) (acts i).length ca, iv p, iv (raw i).wait, iv (raw i).guard, iv (raw i).how, iv (raw i).num] 68)).alloc (.cells #[iv K, iv x, iv y, iv n] 47)) (w.heap.size + 1) 47 #[iv K, iv x, iv y, iv n] := by
    have := Blk.new (w.alloc (.cells #[.slice (some ⟨ga, oa, none⟩) (acts i).length ca, iv p, iv (raw i).wait, iv (raw i).guard, iv (raw i).how, iv (raw i).num] 68)) 47 #[iv K, iv x, iv y, iv n]
    simpa using this
  have HO2 := Lib.hid (((Only.refl [] w).alloc (.cells #[.slice (some ⟨ga, oa, none⟩) (acts i).length ca, iv p, iv (raw i).wait, iv (raw i).guard, iv (raw i).how, iv (raw i).num] 68)).alloc (.cells #[iv K, iv x, iv y, iv n] 47))
  have HH2 := Lib.hid h2
  have HB1 := Lib.hid hb1
  have HB2 := Lib.hid hb2
  clear h h2 hb1 hb2 htv hv ha hat
  generalize hwt : (raw i).wait = wt at *
  generalize (raw i).guard = gd at *
  generalize (raw i).how = hw at *
  generalize (raw i).num = nm at *
  subst hw1
  have hxz : (x : Int) < 4 := by omega
  obtain ⟨qa, qc, _, c1⟩ := HH2.out.qcell hx
  have c2 := HH2.out.roomcell
  subst hK
  by_cases hlk : s.room ≤ ((s.queues x).length : Int)
  · rw [if_pos hlk]
    have hlz : decide (s.room ≤ ((s.queues x).length : Int)) = true := decide_eq_true hlk
    go_enter Try.func27, Try.ntmps27
    go_wp2
    go_quiet (fail)
    go_wp2
    go_quiet (fail)
    go_wp2
    go_quiet (fail)
    go_wp2
    exact bodyPost_ret (results_tmp rfl _ _ _) rfl ⟨rfl, by first | exact HO2.out.drewN _ | exact (HO2.out.drewN _).drewN _ | exact ((HO2.out.drewN _).drewN _).drewN _ | exact (((HO2.out.drewN _).drewN _).drewN _).drewN _⟩
  · rw [if_neg hlk]
    have hlz : decide (s.room ≤ ((s.queues x).length : Int)) = false := decide_eq_false hlk
    go_enter Try.func27, Try.ntmps27
    go_wp2
    go_quiet (fail)
    go_wp2
    go_quiet (fail)
    go_wp2
    go_quiet (fail)
    go_wp2
    go_quiet (fail)
    go_wp2
    exact bodyPost_ret (results_tmp rfl _ _ _) rfl ⟨rfl, by first | exact HO2.out.drewN _ | exact (HO2.out.drewN _).drewN _ | exact ((HO2.out.drewN _).drewN _).drewN _ | exact (((HO2.out.drewN _).drewN _).drewN _).drewN _⟩
set_option maxRecDepth 100000 in
set_option maxHeartbeats 3200000 in
theorem why_take (h : R2 w base r g o f tv vs acts raw s) (hi : i < s.n) (hp : p < (acts i).length) (hat : (raw i).at_ = p) (ha : (acts i)[p] = ⟨7, x, y, n⟩) (hx : x < 4) (hw1 : (raw i).wait = 0) :
    Calls Try.prog 27 #[.pointer (some ⟨r, 0, none⟩), iv i] w fun e w' => e = .returned (iv (if s.queues x = [] then 7 else 0)) ∧ Only [] w w' := by
  obtain ⟨K, hK⟩ : ∃ K : Int, K = 7 := ⟨_, rfl⟩
  rw [← hK] at ha
  obtain ⟨cap, htv, c0⟩ := h.tcell (by omega)
  obtain ⟨k0, k1, k2, k3, k4, k5, hl, hf⟩ := h.cells hi
  obtain ⟨ga, oa, ca, hv, hgs, q0, q1, q2, q3⟩ := h.acell hi hp
  have hz : (i : Int) < (s.n : Int) := by omega
  have hpz : (p : Int) < ((acts i).length : Int) := by omega
  rw [hat] at k1
  rw [hv] at k0
  rw [ha] at q0 q1 q2 q3
  dsimp only at q0 q1 q2 q3
  obtain ⟨h2, _⟩ := h.only0 (((Only.refl [] w).alloc (.cells #[.slice (some ⟨ga, oa, none⟩) (acts i).length ca, iv p, iv (raw i).wait, iv (raw i).guard, iv (raw i).how, iv (raw i).num] 68)).alloc (.cells #[iv K, iv x, iv y, iv n] 47))
  have hb1 : Blk ((w.alloc (.cells #[.slice (some ⟨ga, oa, none⟩) (acts i).length ca, iv p, iv (raw i).wait, iv (raw i).guard, iv (raw i).how, iv (raw i).num] 68)).alloc (.cells #[iv K, iv x, iv y, iv n] 47)) w.heap.size 68 #[.slice (some ⟨ga, oa, none⟩) (acts i).length ca, iv p, iv (raw i).wait, iv (raw i).guard, iv (raw i).how, iv (raw i).num] := (Blk.new _ _ _).alloc _
  have hb2 : Blk ((w.alloc (.cells #[.slice (some ⟨ga, oa, none⟩) (acts i).length ca, iv p, iv (raw i).wait, iv (raw i).guard, iv (raw i).how, iv (raw i).num] 68)).alloc (.cells #[iv K, iv x, iv y, iv n] 47)) (w.heap.size + 1) 47 #[iv K, iv x, iv y, iv n] := by
    have := Blk.new (w.alloc (.cells #[.slice (some ⟨ga, oa, none⟩) (acts i).length ca, iv p, iv (raw i).wait, iv (raw i).guard, iv (raw i).how, iv (raw i).num] 68)) 47 #[iv K, iv x, iv y, iv n]
    simpa using this
  have HO2 := Lib.hid (((Only.refl [] w).alloc (.cells #[.slice (some ⟨ga, oa, none⟩) (acts i).length ca, iv p, iv (raw i).wait, iv (raw i).guard, iv (raw i).how, iv (raw i).num] 68)).alloc (.cells #[iv K, iv x, iv y, iv n] 47))
  have HH2 := Lib.hid h2
  have HB1 := Lib.hid hb1
  have HB2 := Lib.hid hb2
  clear h h2 hb1 hb2 htv hv ha hat
  generalize hwt : (raw i).wait = wt at *
  generalize (raw i).guard = gd at *
  generalize (raw i).how = hw at *
  generalize (raw i).num = nm at *
  subst hw1
  have hxz : (x : Int) < 4 := by omega
  obtain ⟨qa, qc, _, c1⟩ := HH2.out.qcell hx
  subst hK
  by_cases hlk : s.queues x = []
  · rw [if_pos hlk]
    rw [hlk] at c1
    have c1 : _ = some (Value.slice qa 0 qc) := c1
    go_enter Try.func27, Try.ntmps27
    go_wp2
    go_quiet (fail)
    go_wp2
    go_quiet (fail)
    go_wp2
    go_quiet (fail)
    go_wp2
    go_quiet (fail)
    go_wp2
    exact bodyPost_ret (results_tmp rfl _ _ _) rfl ⟨rfl, by first | exact HO2.out.drewN _ | exact (HO2.out.drewN _).drewN _ | exact ((HO2.out.drewN _).drewN _).drewN _ | exact (((HO2.out.drewN _).drewN _).drewN _).drewN _⟩
  · rw [if_neg hlk]
    have hlz : (((s.queues x).length : Int) == 0) = false := by rw [beq_eq_false_iff_ne]; intro e; exact hlk (List.length_eq_zero_iff.1 (by omega))
    clear hlk
    go_enter Try.func27, Try.ntmps27
    go_wp2
    go_quiet (fail)
    go_wp2
    go_quiet (fail)
    go_wp2
    go_quiet (fail)
    go_wp2
    go_quiet (fail)
    go_wp2
    exact bodyPost_ret (results_tmp rfl _ _ _) rfl ⟨rfl, by first | exact HO2.out.drewN _ | exact (HO2.out.drewN _).drewN _ | exact ((HO2.out.drewN _).drewN _).drewN _ | exact (((HO2.out.drewN _).drewN _).drewN _).drewN _⟩
set_option maxRecDepth 100000 in
set_option maxHeartbeats 3200000 in
theorem why_not (h : R2 w base r g o f tv vs acts raw s) (hi : i < s.n) (hp : p < (acts i).length) (hat : (raw i).at_ = p) (ha : (acts i)[p] = ⟨K, x, y, n⟩) (hK1 : K ≠ 1) (hK6 : K ≠ 6) (hK7 : K ≠ 7) (hw1 : (raw i).wait = 0) :
    Calls Try.prog 27 #[.pointer (some ⟨r, 0, none⟩), iv i] w fun e w' => e = .returned (iv 0) ∧ Only [] w w' := by
  obtain ⟨cap, htv, c0⟩ := h.tcell (by omega)
  obtain ⟨k0, k1, k2, k3, k4, k5, hl, hf⟩ := h.cells hi
  obtain ⟨ga, oa, ca, hv, hgs, q0, q1, q2, q3⟩ := h.acell hi hp
  have hz : (i : Int) < (s.n : Int) := by omega
  have hpz : (p : Int) < ((acts i).length : Int) := by omega
  rw [hat] at k1
  rw [hv] at k0
  rw [ha] at q0 q1 q2 q3
  dsimp only at q0 q1 q2 q3
  obtain ⟨h2, _⟩ := h.only0 (((Only.refl [] w).alloc (.cells #[.slice (some ⟨ga, oa, none⟩) (acts i).length ca, iv p, iv (raw i).wait, iv (raw i).guard, iv (raw i).how, iv (raw i).num] 68)).alloc (.cells #[iv K, iv x, iv y, iv n] 47))
  have hb1 : Blk ((w.alloc (.cells #[.slice (some ⟨ga, oa, none⟩) (acts i).length ca, iv p, iv (raw i).wait, iv (raw i).guard, iv (raw i).how, iv (raw i).num] 68)).alloc (.cells #[iv K, iv x, iv y, iv n] 47)) w.heap.size 68 #[.slice (some ⟨ga, oa, none⟩) (acts i).length ca, iv p, iv (raw i).wait, iv (raw i).guard, iv (raw i).how, iv (raw i).num] := (Blk.new _ _ _).alloc _
  have hb2 : Blk ((w.alloc (.cells #[.slice (some ⟨ga, oa, none⟩) (acts i).length ca, iv p, iv (raw i).wait, iv (raw i).guard, iv (raw i).how, iv (raw i).num] 68)).alloc (.cells #[iv K, iv x, iv y, iv n] 47)) (w.heap.size + 1) 47 #[iv K, iv x, iv y, iv n] := by
    have := Blk.new (w.alloc (.cells #[.slice (some ⟨ga, oa, none⟩) (acts i).length ca, iv p, iv (raw i).wait, iv (raw i).guard, iv (raw i).how, iv (raw i).num] 68)) 47 #[iv K, iv x, iv y, iv n]
    simpa using this
  have HO2 := Lib.hid (((Only.refl [] w).alloc (.cells #[.slice (some ⟨ga, oa, none⟩) (acts i).length ca, iv p, iv (raw i).wait, iv (raw i).guard, iv (raw i).how, iv (raw i).num] 68)).alloc (.cells #[iv K, iv x, iv y, iv n] 47))
  have HH2 := Lib.hid h2
  have HB1 := Lib.hid hb1
  have HB2 := Lib.hid hb2
  clear h h2 hb1 hb2 htv hv ha hat
  generalize hwt : (raw i).wait = wt at *
  generalize (raw i).guard = gd at *
  generalize (raw i).how = hw at *
  generalize (raw i).num = nm at *
  subst hw1
  have z1 : (K == 1) = false := by simpa using hK1
  have z6 : (K == 6) = false := by simpa using hK6
  have z7 : (K == 7) = false := by simpa using hK7
  go_enter Try.func27, Try.ntmps27
  go_wp2
  go_quiet (fail)
  go_wp2
  go_quiet (fail)
  go_wp2
  go_quiet (fail)
  go_wp2
  go_quiet (fail)
  go_wp2
  exact bodyPost_ret (results_tmp rfl _ _ _) rfl ⟨rfl, by first | exact HO2.out.drewN _ | exact (HO2.out.drewN _).drewN _ | exact ((HO2.out.drewN _).drewN _).drewN _ | exact (((HO2.out.drewN _).drewN _).drewN _).drewN _⟩
end
end Go.Proofs.Ytompelilflckkaa
/-
  The document's own run: why a task waits, of a run in plain words.
-/
namespace Go.Proofs.Ytompelilflckkaa
open Go.RowKit Go.Fl

theorem nat_of' {a : Int} (h : 0 ≤ a) : ∃ x : Nat, a = x := ⟨a.toNat, by omega⟩
/-- A task's cells tell of a task. -/
structure Sim (t : T) (x : RT) : Prop where
  wait : x.wait = t.wait
  guard : x.guard = t.guard
  num : x.num = t.num
  how : x.how = if t.died = true then 2 else if t.acts.length ≤ t.pc then 1 else 0
  at_ : x.at_ = t.pc ∨ (t.acts.length ≤ t.pc ∧ (t.acts.length : Int) ≤ x.at_ ∧ x.at_ ≤ t.acts.length + 256)
/-- What else holds of a run. -/
structure WI (s : S) : Prop where
  lk : ∀ k, -1 ≤ s.locks k
  wt : ∀ i, i < s.n → (s.ts i).wait ≠ 0 → (s.ts i).died = false ∧ (s.ts i).pc < (s.ts i).acts.length ∧ (s.ts i).act.kind = 3
  mem : ∀ c i, i ∈ s.conds c → i < s.n ∧ (s.ts i).wait = 1 ∧ (s.ts i).act.a.toNat = c
  nd : ∀ c, (s.conds c).Nodup
theorem nodup_len : ∀ (n : Nat) (l : List Nat), l.Nodup → (∀ x ∈ l, x < n) → l.length ≤ n
  | 0, [], _, _ => Nat.le_refl _
  | 0, x :: l, _, h => absurd (h x (by simp)) (Nat.not_lt_zero _)
  | n + 1, l, hd, h => by
    by_cases hm : n ∈ l
    · have h1 := nodup_len n (l.erase n) (hd.erase n) (fun x hx => by
        have h2 := (hd.mem_erase_iff).1 hx
        have := h x h2.2
        have := h2.1
        omega)
      rw [List.length_erase_of_mem hm] at h1
      omega
    · have h1 := nodup_len n l hd (fun x hx => by
        have := h x hx
        have : x ≠ n := fun e => hm (e ▸ hx)
        omega)
      omega
theorem WI.len {s : S} (h : WI s) (c : Nat) : (s.conds c).length ≤ s.n := nodup_len _ _ (h.nd c) fun x hx => (h.mem c x hx).1
theorem how_why {s : S} (h : WI s) {t : T} (hd : t.died = false) (hp : t.pc < t.acts.length) (hw : t.wait = 0 ∨ t.wait = 1 ∨ t.wait = 2) (hk : t.wait ≠ 0 → t.act.kind = 3) : how s t = if whyM s t.act t.wait = 0 then 3 else whyM s t.act t.wait := by
  have l1 := h.lk t.act.a.toNat
  have l2 := h.lk t.act.b.toNat
  have key : ∀ v : Int, v ≠ 0 → whyM s t.act t.wait = v → v = if whyM s t.act t.wait = 0 then 3 else whyM s t.act t.wait := fun v h0 e => by
    rw [e, if_neg h0]
  have key0 : whyM s t.act t.wait = 0 → (3 : Int) = if whyM s t.act t.wait = 0 then 3 else whyM s t.act t.wait := fun e => by
    rw [e, if_pos rfl]
  unfold how
  rw [if_neg (by rw [hd]; simp), if_neg (by omega)]
  rcases hw with e | e | e
  · by_cases k1 : t.act.kind = 1
    · by_cases hl : 0 ≤ s.locks t.act.a.toNat
      · rw [if_pos (.inl ⟨k1, hl⟩)]
        refine key 4 (by omega) ?_
        unfold whyM
        rw [e, if_neg (by omega), if_neg (by omega), if_pos ⟨k1, by omega⟩]
      · rw [if_neg (by omega), if_neg (by omega), if_neg (by omega), if_neg (by omega)]
        refine key0 ?_
        unfold whyM
        rw [e, if_neg (by omega), if_neg (by omega), if_neg (by omega), if_neg (by omega), if_neg (by omega)]
    · rw [if_neg (by omega), if_neg (by omega)]
      by_cases k6 : t.act.kind = 6 ∧ s.room ≤ ((s.queues t.act.a.toNat).length : Int)
      · rw [if_pos k6]
        refine key 6 (by omega) ?_
        unfold whyM
        rw [e, if_neg (by omega), if_neg (by omega), if_neg (by omega), if_pos k6]
      · rw [if_neg k6]
        by_cases k7 : t.act.kind = 7 ∧ s.queues t.act.a.toNat = []
        · rw [if_pos k7]
          refine key 7 (by omega) ?_
          unfold whyM
          rw [e, if_neg (by omega), if_neg (by omega), if_neg (by omega), if_neg k6, if_pos k7]
        · rw [if_neg k7]
          refine key0 ?_
          unfold whyM
          rw [e, if_neg (by omega), if_neg (by omega), if_neg (by omega), if_neg k6, if_neg k7]
  · have k3 := hk (by omega)
    rw [if_neg (by omega), if_pos ⟨k3, e⟩]
    refine key 5 (by omega) ?_
    unfold whyM
    rw [if_pos e]
  · have k3 := hk (by omega)
    by_cases hl : 0 ≤ s.locks t.act.b.toNat
    · rw [if_pos (.inr ⟨k3, e, hl⟩)]
      refine key 4 (by omega) ?_
      unfold whyM
      rw [if_neg (by omega), if_pos ⟨e, by omega⟩]
    · rw [if_neg (by omega), if_neg (by omega), if_neg (by omega), if_neg (by omega)]
      refine key0 ?_
      unfold whyM
      rw [if_neg (by omega), if_neg (by omega), if_neg (by omega), if_neg (by omega), if_neg (by omega)]
section
variable {w : World} {base r g o : Nat} {f : Nat → Value} {tv : Value} {vs : Nat → Value} {acts : Nat → List A} {raw : Nat → RT} {s : S} {i p : Nat}
theorem why_ok (h : R2 w base r g o f tv vs acts raw s) (hi : i < s.n) (hp : p < (acts i).length) (hat : (raw i).at_ = p) {a : A} (ha : (acts i)[p] = a) {m : Nat} (hok : okA m a) (hw : (raw i).wait = 0 ∨ (raw i).wait = 1 ∨ (raw i).wait = 2) (hk : (raw i).wait ≠ 0 → a.kind = 3) :
    Calls Try.prog 27 #[.pointer (some ⟨r, 0, none⟩), iv i] w fun e w' => e = .returned (iv (whyM s a (raw i).wait)) ∧ Only [] w w' := by
  obtain ⟨K, x, y, n⟩ := a
  have hx0 : 0 ≤ x ∧ 0 ≤ y ∧ (K = 1 ∨ K = 6 ∨ K = 7 → x < 4) ∧ (K = 3 → y < 4) := by
    unfold okA at hok
    dsimp only at hok
    omega
  obtain ⟨x, rfl⟩ := nat_of' hx0.1
  obtain ⟨y, rfl⟩ := nat_of' hx0.2.1
  unfold whyM
  dsimp only at hk hx0 ⊢
  rw [Int.toNat_natCast, Int.toNat_natCast]
  rcases hw with e | e | e
  · rw [e]
    rw [if_neg (show ¬ (0 : Int) = 1 by omega), if_neg (show ¬ ((0 : Int) = 2 ∧ _) by omega)]
    by_cases k1 : K = 1
    · subst k1
      have := why_lock h hi hp hat ha (by omega) e
      refine this.mono fun e w' he => ⟨he.1.trans ?_, he.2⟩
      by_cases hl : s.locks x + 1 = 0
      · rw [if_pos hl, if_neg (by omega), if_neg (by omega), if_neg (by omega)]
      · rw [if_neg hl, if_pos ⟨rfl, hl⟩]
    · rw [if_neg (show ¬ (K = 1 ∧ _) from fun q => k1 q.1)]
      by_cases k6 : K = 6
      · subst k6
        have := why_put h hi hp hat ha (by omega) e
        refine this.mono fun e w' he => ⟨he.1.trans ?_, he.2⟩
        by_cases hl : s.room ≤ ((s.queues x).length : Int)
        · rw [if_pos hl, if_pos ⟨rfl, hl⟩]
        · rw [if_neg hl, if_neg (by omega), if_neg (by omega)]
      · rw [if_neg (show ¬ (K = 6 ∧ _) from fun q => k6 q.1)]
        by_cases k7 : K = 7
        · subst k7
          have := why_take h hi hp hat ha (by omega) e
          refine this.mono fun e w' he => ⟨he.1.trans ?_, he.2⟩
          by_cases hl : s.queues x = []
          · rw [if_pos hl, if_pos ⟨rfl, hl⟩]
          · rw [if_neg hl, if_neg (fun q => hl q.2)]
        · rw [if_neg (show ¬ (K = 7 ∧ _) from fun q => k7 q.1)]
          exact why_not h hi hp hat ha k1 k6 k7 e
  · rw [e, if_pos rfl]
    exact why_one h hi hp hat ha e
  · have k3 := hk (by omega)
    subst k3
    have := why_two h hi hp hat ha (by omega) e
    refine this.mono fun e' w' he => ⟨he.1.trans ?_, he.2⟩
    rw [e, if_neg (show ¬ (2 : Int) = 1 by omega)]
    by_cases hl : s.locks y + 1 = 0
    · rw [if_pos hl, if_neg (by omega), if_neg (by omega), if_neg (by omega), if_neg (by omega)]
    · rw [if_neg hl, if_pos ⟨rfl, hl⟩]
end
end Go.Proofs.Ytompelilflckkaa
