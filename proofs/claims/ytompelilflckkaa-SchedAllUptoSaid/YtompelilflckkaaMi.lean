/-
  The scheduler: a task's act, kind by kind: who wakes, queues, skips.
-/
import Derived.Test.YtompelilflckkaaMh
set_option linter.unusedSimpArgs false
set_option linter.unusedVariables false
namespace Go.Proofs.Ytompelilflckkaa
open Go.RowKit Go.Fl

section
variable {w : World} {base r : Nat} {f : Nat → Value} {b : Nat → Nat} {s : S} {i L x y : Nat} {n : Int}
set_option maxRecDepth 100000 in
set_option maxHeartbeats 3200000 in
theorem do4_0 (h : RS w base r f b s) (hw : WF s L) (hi : i < s.n) (hp : (s.ts i).pc < (s.ts i).acts.length) (ha : (s.ts i).act = ⟨4, x, y, n⟩) (hx : x < 4) (hL : L ≤ 65536) (hcl : (s.conds x).length = 0) :
    Calls Try.prog 46 #[.pointer (some ⟨r, 0, none⟩), iv i, .pointer (some ⟨b i, 0, none⟩)] w fun e w' => e = .returned (.tuple #[]) ∧ (∃ f', RS w' base r f' b ((s.wake x (0)).go i)) ∧ Below base w w' := by
  have HA := Lib.hid (act_ok h hi hp)
  have hpl := hw.lens i hi
  rw [ha] at HA
  unfold actV at HA
  dsimp only at HA
  go_enter Try.func46, Try.ntmps46
  go_wp2_with fail
  refine HA.out.mono ?_
  clear HA
  rintro e w2 ⟨rfl, hO2⟩
  obtain ⟨h2, b2⟩ := h.only0 hO2
  obtain ⟨h3, b3⟩ := h2.only0 ((Only.refl [] w2).alloc (.cells #[iv 4, iv x, iv y, iv n] 47))
  have hbx : Blk (w2.alloc (.cells #[iv 4, iv x, iv y, iv n] 47)) w2.heap.size 47 #[iv 4, iv x, iv y, iv n] := Blk.new _ _ _
  have HX := Lib.hid hbx
  have B3 := Lib.hid (b2.trans b3)
  obtain ⟨hcx, _, hltx⟩ := hbx.facts
  have H3 := Lib.hid h3
  have hnr : w2.heap.size ≠ r := fun e => by have := h2.lt; omega
  have hlr := h3.lt
  clear hO2 h2 b2 b3 hbx h
  have hxz : (x : Int) < 4 := by omega
  obtain ⟨cc, hS⟩ := h3.sCond hx
  obtain ⟨ca, cc2, hcv, _, _⟩ := hS.shape
  rw [hcv] at cc
  rw [hcl] at cc
  have hll := (hw.conds x).2
  obtain ⟨h4, b4⟩ := h3.only0 (Only.refl [] _).drew
  have B4 := Lib.hid (B3.out.trans b4)
  have hF := Lib.hid (wake_ok (k := 0) h4 hw hL hx (by omega))
  clear h3 hS hcv b4 h4
  go_wp2
  generalize w2.alloc (.cells #[.int .i64 4, .int .i64 x, .int .i64 y, .int .i64 n] 47) = w3 at *
  go_still_tail 12, (by kernel_rfl)
  change wpList _ _ _ _ _ w3.drew
  generalize w3.drew = w4 at *
  go_wp2_with fail
  refine hF.out.mono ?_
  clear hF
  rintro e w5 ⟨rfl, ⟨f5, hR⟩, hB⟩
  have H5 := Lib.hid hR
  have B5 := Lib.hid (B4.out.trans hB)
  have hwk := (wakeAll_t s ((s.conds x).take (0)) i).2.1
  have hi : i < (s.wake x (0)).n := by show i < (s.wakeAll _).n; rw [wakeAll_n]; exact hi
  have hq : ((s.wake x (0)).ts i).pc < (s.ts i).acts.length := Nat.lt_of_le_of_lt (Nat.le_of_eq hwk) hp
  clear hR hB hwk
  obtain ⟨s5, hs5⟩ : ∃ s5, s.wake x (0) = s5 := ⟨_, rfl⟩
  rw [hs5] at H5 hi hq
  have HS5 := Lib.hid hs5
  clear hs5
  obtain ⟨v5, hB5, _⟩ := H5.out.task i hi
  obtain ⟨hc5, hf5, hl5⟩ := hB5.facts
  have hq5 := hq
  obtain ⟨h6, b6⟩ := H5.out.setT2 hi (j := 1) (u := iv ((s5.ts i).pc + 1)) (t := { s5.ts i with pc := (s5.ts i).pc + 1 }) rfl rfl (fun v => pc_step v _)
  have H6 := Lib.hid h6
  have B6 := Lib.hid (B5.out.trans b6)
  clear hB5 h6 b6
  go_wp2
  go_end0
  exact ⟨rfl, ⟨_, by rw [HS5.out]; exact H6.out⟩, B6.out⟩
set_option maxRecDepth 100000 in
set_option maxHeartbeats 3200000 in
theorem do4_1 (h : RS w base r f b s) (hw : WF s L) (hi : i < s.n) (hp : (s.ts i).pc < (s.ts i).acts.length) (ha : (s.ts i).act = ⟨4, x, y, n⟩) (hx : x < 4) (hL : L ≤ 65536) (hcl : (s.conds x).length = 1) :
    Calls Try.prog 46 #[.pointer (some ⟨r, 0, none⟩), iv i, .pointer (some ⟨b i, 0, none⟩)] w fun e w' => e = .returned (.tuple #[]) ∧ (∃ f', RS w' base r f' b ((s.wake x (1)).go i)) ∧ Below base w w' := by
  have HA := Lib.hid (act_ok h hi hp)
  have hpl := hw.lens i hi
  rw [ha] at HA
  unfold actV at HA
  dsimp only at HA
  go_enter Try.func46, Try.ntmps46
  go_wp2_with fail
  refine HA.out.mono ?_
  clear HA
  rintro e w2 ⟨rfl, hO2⟩
  obtain ⟨h2, b2⟩ := h.only0 hO2
  obtain ⟨h3, b3⟩ := h2.only0 ((Only.refl [] w2).alloc (.cells #[iv 4, iv x, iv y, iv n] 47))
  have hbx : Blk (w2.alloc (.cells #[iv 4, iv x, iv y, iv n] 47)) w2.heap.size 47 #[iv 4, iv x, iv y, iv n] := Blk.new _ _ _
  have HX := Lib.hid hbx
  have B3 := Lib.hid (b2.trans b3)
  obtain ⟨hcx, _, hltx⟩ := hbx.facts
  have H3 := Lib.hid h3
  have hnr : w2.heap.size ≠ r := fun e => by have := h2.lt; omega
  have hlr := h3.lt
  clear hO2 h2 b2 b3 hbx h
  have hxz : (x : Int) < 4 := by omega
  obtain ⟨cc, hS⟩ := h3.sCond hx
  obtain ⟨ca, cc2, hcv, _, _⟩ := hS.shape
  rw [hcv] at cc
  rw [hcl] at cc
  have hll := (hw.conds x).2
  obtain ⟨h4, b4⟩ := h3.only0 (Only.refl [] _).drew
  have B4 := Lib.hid (B3.out.trans b4)
  have hF := Lib.hid (wake_ok (k := 1) h4 hw hL hx (by omega))
  clear h3 hS hcv b4 h4
  go_wp2
  generalize w2.alloc (.cells #[.int .i64 4, .int .i64 x, .int .i64 y, .int .i64 n] 47) = w3 at *
  go_still_tail 12, (by kernel_rfl)
  change wpList _ _ _ _ _ w3.drew
  generalize w3.drew = w4 at *
  go_wp2_with fail
  refine hF.out.mono ?_
  clear hF
  rintro e w5 ⟨rfl, ⟨f5, hR⟩, hB⟩
  have H5 := Lib.hid hR
  have B5 := Lib.hid (B4.out.trans hB)
  have hwk := (wakeAll_t s ((s.conds x).take (1)) i).2.1
  have hi : i < (s.wake x (1)).n := by show i < (s.wakeAll _).n; rw [wakeAll_n]; exact hi
  have hq : ((s.wake x (1)).ts i).pc < (s.ts i).acts.length := Nat.lt_of_le_of_lt (Nat.le_of_eq hwk) hp
  clear hR hB hwk
  obtain ⟨s5, hs5⟩ : ∃ s5, s.wake x (1) = s5 := ⟨_, rfl⟩
  rw [hs5] at H5 hi hq
  have HS5 := Lib.hid hs5
  clear hs5
  obtain ⟨v5, hB5, _⟩ := H5.out.task i hi
  obtain ⟨hc5, hf5, hl5⟩ := hB5.facts
  have hq5 := hq
  obtain ⟨h6, b6⟩ := H5.out.setT2 hi (j := 1) (u := iv ((s5.ts i).pc + 1)) (t := { s5.ts i with pc := (s5.ts i).pc + 1 }) rfl rfl (fun v => pc_step v _)
  have H6 := Lib.hid h6
  have B6 := Lib.hid (B5.out.trans b6)
  clear hB5 h6 b6
  go_wp2
  go_end0
  exact ⟨rfl, ⟨_, by rw [HS5.out]; exact H6.out⟩, B6.out⟩
set_option maxRecDepth 100000 in
set_option maxHeartbeats 3200000 in
theorem do4_2 (h : RS w base r f b s) (hw : WF s L) (hi : i < s.n) (hp : (s.ts i).pc < (s.ts i).acts.length) (ha : (s.ts i).act = ⟨4, x, y, n⟩) (hx : x < 4) (hL : L ≤ 65536) (hcl : 1 < (s.conds x).length) :
    Calls Try.prog 46 #[.pointer (some ⟨r, 0, none⟩), iv i, .pointer (some ⟨b i, 0, none⟩)] w fun e w' => e = .returned (.tuple #[]) ∧ (∃ f', RS w' base r f' b ((s.wake x (1)).go i)) ∧ Below base w w' := by
  have HA := Lib.hid (act_ok h hi hp)
  have hpl := hw.lens i hi
  rw [ha] at HA
  unfold actV at HA
  dsimp only at HA
  go_enter Try.func46, Try.ntmps46
  go_wp2_with fail
  refine HA.out.mono ?_
  clear HA
  rintro e w2 ⟨rfl, hO2⟩
  obtain ⟨h2, b2⟩ := h.only0 hO2
  obtain ⟨h3, b3⟩ := h2.only0 ((Only.refl [] w2).alloc (.cells #[iv 4, iv x, iv y, iv n] 47))
  have hbx : Blk (w2.alloc (.cells #[iv 4, iv x, iv y, iv n] 47)) w2.heap.size 47 #[iv 4, iv x, iv y, iv n] := Blk.new _ _ _
  have HX := Lib.hid hbx
  have B3 := Lib.hid (b2.trans b3)
  obtain ⟨hcx, _, hltx⟩ := hbx.facts
  have H3 := Lib.hid h3
  have hnr : w2.heap.size ≠ r := fun e => by have := h2.lt; omega
  have hlr := h3.lt
  clear hO2 h2 b2 b3 hbx h
  have hxz : (x : Int) < 4 := by omega
  obtain ⟨cc, hS⟩ := h3.sCond hx
  obtain ⟨ca, cc2, hcv, _, _⟩ := hS.shape
  rw [hcv] at cc
  have hclz : (1 : Int) < ((s.conds x).length : Int) := by omega
  have hll := (hw.conds x).2
  obtain ⟨h4, b4⟩ := h3.only0 (Only.refl [] _).drew
  have B4 := Lib.hid (B3.out.trans b4)
  have hF := Lib.hid (wake_ok (k := 1) h4 hw hL hx (by omega))
  clear h3 hS hcv b4 h4
  go_wp2
  generalize w2.alloc (.cells #[.int .i64 4, .int .i64 x, .int .i64 y, .int .i64 n] 47) = w3 at *
  go_still_tail 12, (by kernel_rfl)
  change wpList _ _ _ _ _ w3.drew
  generalize w3.drew = w4 at *
  go_wp2_with fail
  refine hF.out.mono ?_
  clear hF
  rintro e w5 ⟨rfl, ⟨f5, hR⟩, hB⟩
  have H5 := Lib.hid hR
  have B5 := Lib.hid (B4.out.trans hB)
  have hwk := (wakeAll_t s ((s.conds x).take (1)) i).2.1
  have hi : i < (s.wake x (1)).n := by show i < (s.wakeAll _).n; rw [wakeAll_n]; exact hi
  have hq : ((s.wake x (1)).ts i).pc < (s.ts i).acts.length := Nat.lt_of_le_of_lt (Nat.le_of_eq hwk) hp
  clear hR hB hwk
  obtain ⟨s5, hs5⟩ : ∃ s5, s.wake x (1) = s5 := ⟨_, rfl⟩
  rw [hs5] at H5 hi hq
  have HS5 := Lib.hid hs5
  clear hs5
  obtain ⟨v5, hB5, _⟩ := H5.out.task i hi
  obtain ⟨hc5, hf5, hl5⟩ := hB5.facts
  have hq5 := hq
  obtain ⟨h6, b6⟩ := H5.out.setT2 hi (j := 1) (u := iv ((s5.ts i).pc + 1)) (t := { s5.ts i with pc := (s5.ts i).pc + 1 }) rfl rfl (fun v => pc_step v _)
  have H6 := Lib.hid h6
  have B6 := Lib.hid (B5.out.trans b6)
  clear hB5 h6 b6
  go_wp2
  go_end0
  exact ⟨rfl, ⟨_, by rw [HS5.out]; exact H6.out⟩, B6.out⟩
set_option maxRecDepth 100000 in
set_option maxHeartbeats 3200000 in
theorem do5 (h : RS w base r f b s) (hw : WF s L) (hi : i < s.n) (hp : (s.ts i).pc < (s.ts i).acts.length) (ha : (s.ts i).act = ⟨5, x, y, n⟩) (hx : x < 4) (hL : L ≤ 65536) :
    Calls Try.prog 46 #[.pointer (some ⟨r, 0, none⟩), iv i, .pointer (some ⟨b i, 0, none⟩)] w fun e w' => e = .returned (.tuple #[]) ∧ (∃ f', RS w' base r f' b ((s.wake x (s.conds x).length).go i)) ∧ Below base w w' := by
  have HA := Lib.hid (act_ok h hi hp)
  have hpl := hw.lens i hi
  rw [ha] at HA
  unfold actV at HA
  dsimp only at HA
  go_enter Try.func46, Try.ntmps46
  go_wp2_with fail
  refine HA.out.mono ?_
  clear HA
  rintro e w2 ⟨rfl, hO2⟩
  obtain ⟨h2, b2⟩ := h.only0 hO2
  obtain ⟨h3, b3⟩ := h2.only0 ((Only.refl [] w2).alloc (.cells #[iv 5, iv x, iv y, iv n] 47))
  have hbx : Blk (w2.alloc (.cells #[iv 5, iv x, iv y, iv n] 47)) w2.heap.size 47 #[iv 5, iv x, iv y, iv n] := Blk.new _ _ _
  have HX := Lib.hid hbx
  have B3 := Lib.hid (b2.trans b3)
  obtain ⟨hcx, _, hltx⟩ := hbx.facts
  have H3 := Lib.hid h3
  have hnr : w2.heap.size ≠ r := fun e => by have := h2.lt; omega
  have hlr := h3.lt
  clear hO2 h2 b2 b3 hbx h
  have hxz : (x : Int) < 4 := by omega
  obtain ⟨cc, hS⟩ := h3.sCond hx
  obtain ⟨ca, cc2, hcv, _, _⟩ := hS.shape
  rw [hcv] at cc
  have hll := (hw.conds x).2
  obtain ⟨h4, b4⟩ := h3.only0 (Only.refl [] _).drew
  have B4 := Lib.hid (B3.out.trans b4)
  have hF := Lib.hid (wake_ok (k := (s.conds x).length) h4 hw hL hx (by omega))
  clear h3 hS hcv b4 h4
  go_wp2
  generalize w2.alloc (.cells #[.int .i64 5, .int .i64 x, .int .i64 y, .int .i64 n] 47) = w3 at *
  go_still_tail 11, (by kernel_rfl)
  change wpList _ _ _ _ _ w3.drew
  generalize w3.drew = w4 at *
  go_wp2_with fail
  refine hF.out.mono ?_
  clear hF
  rintro e w5 ⟨rfl, ⟨f5, hR⟩, hB⟩
  have H5 := Lib.hid hR
  have B5 := Lib.hid (B4.out.trans hB)
  have hwk := (wakeAll_t s ((s.conds x).take ((s.conds x).length)) i).2.1
  have hi : i < (s.wake x ((s.conds x).length)).n := by show i < (s.wakeAll _).n; rw [wakeAll_n]; exact hi
  have hq : ((s.wake x ((s.conds x).length)).ts i).pc < (s.ts i).acts.length := Nat.lt_of_le_of_lt (Nat.le_of_eq hwk) hp
  clear hR hB hwk
  obtain ⟨s5, hs5⟩ : ∃ s5, s.wake x ((s.conds x).length) = s5 := ⟨_, rfl⟩
  rw [hs5] at H5 hi hq
  have HS5 := Lib.hid hs5
  clear hs5
  obtain ⟨v5, hB5, _⟩ := H5.out.task i hi
  obtain ⟨hc5, hf5, hl5⟩ := hB5.facts
  have hq5 := hq
  obtain ⟨h6, b6⟩ := H5.out.setT2 hi (j := 1) (u := iv ((s5.ts i).pc + 1)) (t := { s5.ts i with pc := (s5.ts i).pc + 1 }) rfl rfl (fun v => pc_step v _)
  have H6 := Lib.hid h6
  have B6 := Lib.hid (B5.out.trans b6)
  clear hB5 h6 b6
  go_wp2
  go_end0
  exact ⟨rfl, ⟨_, by rw [HS5.out]; exact H6.out⟩, B6.out⟩
set_option maxRecDepth 100000 in
set_option maxHeartbeats 3200000 in
theorem do10_no (h : RS w base r f b s) (hw : WF s L) (hi : i < s.n) (hp : (s.ts i).pc < (s.ts i).acts.length) (ha : (s.ts i).act = ⟨10, x, y, n⟩) (hx : x < 8) (hz : ¬ s.regs x = 0) :
    Calls Try.prog 46 #[.pointer (some ⟨r, 0, none⟩), iv i, .pointer (some ⟨b i, 0, none⟩)] w fun e w' => e = .returned (.tuple #[]) ∧ (∃ f', RS w' base r f' b (s.go i)) ∧ Below base w w' := by
  have HA := Lib.hid (act_ok h hi hp)
  have hpl := hw.lens i hi
  rw [ha] at HA
  unfold actV at HA
  dsimp only at HA
  go_enter Try.func46, Try.ntmps46
  go_wp2_with fail
  refine HA.out.mono ?_
  clear HA
  rintro e w2 ⟨rfl, hO2⟩
  obtain ⟨h2, b2⟩ := h.only0 hO2
  obtain ⟨h3, b3⟩ := h2.only0 ((Only.refl [] w2).alloc (.cells #[iv 10, iv x, iv y, iv n] 47))
  have hbx : Blk (w2.alloc (.cells #[iv 10, iv x, iv y, iv n] 47)) w2.heap.size 47 #[iv 10, iv x, iv y, iv n] := Blk.new _ _ _
  have HX := Lib.hid hbx
  have B3 := Lib.hid (b2.trans b3)
  obtain ⟨hcx, _, hltx⟩ := hbx.facts
  have H3 := Lib.hid h3
  have hnr : w2.heap.size ≠ r := fun e => by have := h2.lt; omega
  have hlr := h3.lt
  clear hO2 h2 b2 b3 hbx h
  have hxz : (x : Int) < 8 := by omega
  have cl := h3.cReg hx
  have hzz : (s.regs x == 0) = false := by simpa using hz
  clear h3
  go_wp2
  generalize w2.alloc (.cells #[.int .i64 10, .int .i64 x, .int .i64 y, .int .i64 n] 47) = w3 at *
  go_quiet (fail)
  obtain ⟨h5, b5⟩ := H3.out.only0 ((Only.refl [] w3).drewN nq)
  have H5 := Lib.hid h5
  have B5 := Lib.hid (B3.out.trans b5)
  clear h5 b5
  generalize w3.drewN nq = w5 at *
  obtain ⟨v5, hB5, _⟩ := H5.out.task i hi
  obtain ⟨hc5, hf5, hl5⟩ := hB5.facts
  have hq5 := hp
  obtain ⟨h6, b6⟩ := H5.out.setT2 hi (j := 1) (u := iv ((s.ts i).pc + 1)) (t := { s.ts i with pc := (s.ts i).pc + 1 }) rfl rfl (fun v => pc_step v _)
  have H6 := Lib.hid h6
  have B6 := Lib.hid (B5.out.trans b6)
  clear hB5 h6 b6
  go_wp2
  go_end0
  exact ⟨rfl, ⟨_, H6.out⟩, B6.out⟩
set_option maxRecDepth 100000 in
set_option maxHeartbeats 3200000 in
theorem do10_a (h : RS w base r f b s) (hw : WF s L) (hi : i < s.n) (hp : (s.ts i).pc < (s.ts i).acts.length) (ha : (s.ts i).act = ⟨10, x, y, n⟩) (hn : 0 ≤ n) (hm : n ≤ 255) (hx : x < 8) (hz : s.regs x = 0) (hmn : ((s.ts i).pc : Int) + n < ((s.ts i).acts.length : Int)) :
    Calls Try.prog 46 #[.pointer (some ⟨r, 0, none⟩), iv i, .pointer (some ⟨b i, 0, none⟩)] w fun e w' => e = .returned (.tuple #[]) ∧ (∃ f', RS w' base r f' b ((s.setT i { s.ts i with pc := (s.ts i).pc + n.toNat }).go i)) ∧ Below base w w' := by
  have HA := Lib.hid (act_ok h hi hp)
  have hpl := hw.lens i hi
  rw [ha] at HA
  unfold actV at HA
  dsimp only at HA
  go_enter Try.func46, Try.ntmps46
  go_wp2_with fail
  refine HA.out.mono ?_
  clear HA
  rintro e w2 ⟨rfl, hO2⟩
  obtain ⟨h2, b2⟩ := h.only0 hO2
  obtain ⟨h3, b3⟩ := h2.only0 ((Only.refl [] w2).alloc (.cells #[iv 10, iv x, iv y, iv n] 47))
  have hbx : Blk (w2.alloc (.cells #[iv 10, iv x, iv y, iv n] 47)) w2.heap.size 47 #[iv 10, iv x, iv y, iv n] := Blk.new _ _ _
  have HX := Lib.hid hbx
  have B3 := Lib.hid (b2.trans b3)
  obtain ⟨hcx, _, hltx⟩ := hbx.facts
  have H3 := Lib.hid h3
  have hnr : w2.heap.size ≠ r := fun e => by have := h2.lt; omega
  have hlr := h3.lt
  clear hO2 h2 b2 b3 hbx h
  have hxz : (x : Int) < 8 := by omega
  have cl := h3.cReg hx
  rw [hz] at cl
  clear h3
  go_wp2
  generalize w2.alloc (.cells #[.int .i64 10, .int .i64 x, .int .i64 y, .int .i64 n] 47) = w3 at *
  go_quiet (fail)
  obtain ⟨h5, b5⟩ := H3.out.only0 ((Only.refl [] w3).drewN nq)
  have HX5 := Lib.hid (HX.out.drewN nq)
  have hcx5 := HX5.out.cell
  have H5 := Lib.hid h5
  have B5 := Lib.hid (B3.out.trans b5)
  obtain ⟨v, hB, hA⟩ := h5.task i hi
  obtain ⟨va, vc, hva, hva2, _, _⟩ := hA
  subst hva
  obtain ⟨hcell, hfr, hlt⟩ := hB.facts
  clear h5 b5 hB
  generalize w3.drewN nq = w5 at *
  have e : (((s.ts i).pc + n.toNat : Nat) : Int) = ((s.ts i).pc : Int) + n := by omega
  obtain ⟨h7, b7⟩ := H5.out.setT2 hi (j := 1) (u := iv (((s.ts i).pc : Int) + n)) (t := { s.ts i with pc := (s.ts i).pc + n.toNat }) rfl rfl (fun v => by
    unfold SetEq
    show (#[v, iv (((s.ts i).pc : Int) + n), iv (s.ts i).guard, iv (s.ts i).wait, .bool (s.ts i).died, iv (s.ts i).num] : Array Value) = #[v, iv (((s.ts i).pc + n.toNat : Nat) : Int), iv (s.ts i).guard, iv (s.ts i).wait, .bool (s.ts i).died, iv (s.ts i).num]
    rw [e])
  obtain ⟨h8, b8⟩ := h7.only0 (Only.refl [] _).drew
  have H8 := Lib.hid h8
  have B8 := Lib.hid ((B5.out.trans b7).trans b8)
  clear h7 b7 h8 b8 e
  go_wp2
  refine Lex.wp_region_text (by kernel_rfl) (by kernel_rfl) ?_
  go_wp2
  refine Lex.sq_done (by rfl) ?_
  generalize (w5.setCell ⟨b i, 1, none⟩ (.int .i64 (((s.ts i).pc : Int) + n))).drew = w8 at *
  obtain ⟨q, hq⟩ : ∃ q, (s.ts i).pc + n.toNat = q := ⟨_, rfl⟩
  rw [hq] at H8
  have hql : q ≤ 600 := by omega
  have HQ := Lib.hid hq
  clear hq
  clear hcell hfr hlt
  have he : (s.setT i { s.ts i with pc := q }).ts i = { s.ts i with pc := q } := setT_ts _ _ _
  obtain ⟨v8, hB8, _⟩ := H8.out.task i hi
  rw [he] at hB8
  obtain ⟨hc8, hf8, hl8⟩ := hB8.facts
  obtain ⟨h6, b6⟩ := H8.out.setT2 hi (j := 1) (u := iv ((q : Nat) + 1)) (t0 := { s.ts i with pc := q }) (t := { s.ts i with pc := q + 1 }) he rfl (fun v => pc_step v { s.ts i with pc := q })
  have H6 := Lib.hid h6
  have B6 := Lib.hid (B8.out.trans b6)
  have HE := Lib.hid (show (s.setT i { s.ts i with pc := q }).go i = (s.setT i { s.ts i with pc := q }).setT i { s.ts i with pc := q + 1 } by unfold S.go; rw [he])
  clear hB8 h6 b6 he
  go_wp2
  go_end0
  exact ⟨rfl, ⟨_, by rw [HQ.out, HE.out]; exact H6.out⟩, B6.out⟩
set_option maxRecDepth 100000 in
set_option maxHeartbeats 3200000 in
theorem do10_b (h : RS w base r f b s) (hw : WF s L) (hi : i < s.n) (hp : (s.ts i).pc < (s.ts i).acts.length) (ha : (s.ts i).act = ⟨10, x, y, n⟩) (hn : 0 ≤ n) (hm : n ≤ 255) (hx : x < 8) (hz : s.regs x = 0) (hmn : ((s.ts i).pc : Int) + n = ((s.ts i).acts.length : Int)) :
    Calls Try.prog 46 #[.pointer (some ⟨r, 0, none⟩), iv i, .pointer (some ⟨b i, 0, none⟩)] w fun e w' => e = .returned (.tuple #[]) ∧ (∃ f', RS w' base r f' b ((s.setT i { s.ts i with pc := (s.ts i).acts.length }).go i)) ∧ Below base w w' := by
  have HA := Lib.hid (act_ok h hi hp)
  have hpl := hw.lens i hi
  rw [ha] at HA
  unfold actV at HA
  dsimp only at HA
  go_enter Try.func46, Try.ntmps46
  go_wp2_with fail
  refine HA.out.mono ?_
  clear HA
  rintro e w2 ⟨rfl, hO2⟩
  obtain ⟨h2, b2⟩ := h.only0 hO2
  obtain ⟨h3, b3⟩ := h2.only0 ((Only.refl [] w2).alloc (.cells #[iv 10, iv x, iv y, iv n] 47))
  have hbx : Blk (w2.alloc (.cells #[iv 10, iv x, iv y, iv n] 47)) w2.heap.size 47 #[iv 10, iv x, iv y, iv n] := Blk.new _ _ _
  have HX := Lib.hid hbx
  have B3 := Lib.hid (b2.trans b3)
  obtain ⟨hcx, _, hltx⟩ := hbx.facts
  have H3 := Lib.hid h3
  have hnr : w2.heap.size ≠ r := fun e => by have := h2.lt; omega
  have hlr := h3.lt
  clear hO2 h2 b2 b3 hbx h
  have hxz : (x : Int) < 8 := by omega
  have cl := h3.cReg hx
  rw [hz] at cl
  clear h3
  go_wp2
  generalize w2.alloc (.cells #[.int .i64 10, .int .i64 x, .int .i64 y, .int .i64 n] 47) = w3 at *
  go_quiet (fail)
  obtain ⟨h5, b5⟩ := H3.out.only0 ((Only.refl [] w3).drewN nq)
  have HX5 := Lib.hid (HX.out.drewN nq)
  have hcx5 := HX5.out.cell
  have H5 := Lib.hid h5
  have B5 := Lib.hid (B3.out.trans b5)
  obtain ⟨v, hB, hA⟩ := h5.task i hi
  obtain ⟨va, vc, hva, hva2, _, _⟩ := hA
  subst hva
  obtain ⟨hcell, hfr, hlt⟩ := hB.facts
  clear h5 b5 hB
  generalize w3.drewN nq = w5 at *
  have e : (((s.ts i).acts.length : Nat) : Int) = ((s.ts i).acts.length : Int) := by omega
  obtain ⟨h7, b7⟩ := H5.out.setT2 hi (j := 1) (u := iv (((s.ts i).acts.length : Int))) (t := { s.ts i with pc := (s.ts i).acts.length }) rfl rfl (fun v => by
    unfold SetEq
    show (#[v, iv (((s.ts i).acts.length : Int)), iv (s.ts i).guard, iv (s.ts i).wait, .bool (s.ts i).died, iv (s.ts i).num] : Array Value) = #[v, iv (((s.ts i).acts.length : Nat) : Int), iv (s.ts i).guard, iv (s.ts i).wait, .bool (s.ts i).died, iv (s.ts i).num]
    rw [e])
  obtain ⟨h8, b8⟩ := h7.only0 (Only.refl [] _).drew
  have H8 := Lib.hid h8
  have B8 := Lib.hid ((B5.out.trans b7).trans b8)
  clear h7 b7 h8 b8 e
  go_wp2
  refine Lex.wp_region_text (by kernel_rfl) (by kernel_rfl) ?_
  go_wp2
  refine Lex.sq_done (by rfl) ?_
  generalize (w5.setCell ⟨b i, 1, none⟩ (.int .i64 (((s.ts i).acts.length : Int)))).drew = w8 at *
  clear hcell hfr hlt
  have he : (s.setT i { s.ts i with pc := (s.ts i).acts.length }).ts i = { s.ts i with pc := (s.ts i).acts.length } := setT_ts _ _ _
  obtain ⟨v8, hB8, _⟩ := H8.out.task i hi
  rw [he] at hB8
  obtain ⟨hc8, hf8, hl8⟩ := hB8.facts
  obtain ⟨h6, b6⟩ := H8.out.setT2 hi (j := 1) (u := iv (((s.ts i).acts.length : Nat) + 1)) (t0 := { s.ts i with pc := (s.ts i).acts.length }) (t := { s.ts i with pc := (s.ts i).acts.length + 1 }) he rfl (fun v => pc_step v { s.ts i with pc := (s.ts i).acts.length })
  have H6 := Lib.hid h6
  have B6 := Lib.hid (B8.out.trans b6)
  have HE := Lib.hid (show (s.setT i { s.ts i with pc := (s.ts i).acts.length }).go i = (s.setT i { s.ts i with pc := (s.ts i).acts.length }).setT i { s.ts i with pc := (s.ts i).acts.length + 1 } by unfold S.go; rw [he])
  clear hB8 h6 b6 he
  go_wp2
  go_end0
  exact ⟨rfl, ⟨_, by rw [HE.out]; exact H6.out⟩, B6.out⟩
set_option maxRecDepth 100000 in
set_option maxHeartbeats 3200000 in
theorem do10_c (h : RS w base r f b s) (hw : WF s L) (hi : i < s.n) (hp : (s.ts i).pc < (s.ts i).acts.length) (ha : (s.ts i).act = ⟨10, x, y, n⟩) (hn : 0 ≤ n) (hm : n ≤ 255) (hx : x < 8) (hz : s.regs x = 0) (hmn : ((s.ts i).acts.length : Int) < ((s.ts i).pc : Int) + n) :
    Calls Try.prog 46 #[.pointer (some ⟨r, 0, none⟩), iv i, .pointer (some ⟨b i, 0, none⟩)] w fun e w' => e = .returned (.tuple #[]) ∧ (∃ f', RS w' base r f' b ((s.setT i { s.ts i with pc := (s.ts i).acts.length }).go i)) ∧ Below base w w' := by
  have HA := Lib.hid (act_ok h hi hp)
  have hpl := hw.lens i hi
  rw [ha] at HA
  unfold actV at HA
  dsimp only at HA
  go_enter Try.func46, Try.ntmps46
  go_wp2_with fail
  refine HA.out.mono ?_
  clear HA
  rintro e w2 ⟨rfl, hO2⟩
  obtain ⟨h2, b2⟩ := h.only0 hO2
  obtain ⟨h3, b3⟩ := h2.only0 ((Only.refl [] w2).alloc (.cells #[iv 10, iv x, iv y, iv n] 47))
  have hbx : Blk (w2.alloc (.cells #[iv 10, iv x, iv y, iv n] 47)) w2.heap.size 47 #[iv 10, iv x, iv y, iv n] := Blk.new _ _ _
  have HX := Lib.hid hbx
  have B3 := Lib.hid (b2.trans b3)
  obtain ⟨hcx, _, hltx⟩ := hbx.facts
  have H3 := Lib.hid h3
  have hnr : w2.heap.size ≠ r := fun e => by have := h2.lt; omega
  have hlr := h3.lt
  clear hO2 h2 b2 b3 hbx h
  have hxz : (x : Int) < 8 := by omega
  have cl := h3.cReg hx
  rw [hz] at cl
  clear h3
  go_wp2
  generalize w2.alloc (.cells #[.int .i64 10, .int .i64 x, .int .i64 y, .int .i64 n] 47) = w3 at *
  go_quiet (fail)
  obtain ⟨h5, b5⟩ := H3.out.only0 ((Only.refl [] w3).drewN nq)
  have HX5 := Lib.hid (HX.out.drewN nq)
  have hcx5 := HX5.out.cell
  have H5 := Lib.hid h5
  have B5 := Lib.hid (B3.out.trans b5)
  obtain ⟨v, hB, hA⟩ := h5.task i hi
  obtain ⟨va, vc, hva, hva2, _, _⟩ := hA
  subst hva
  obtain ⟨hcell, hfr, hlt⟩ := hB.facts
  clear h5 b5 hB
  generalize w3.drewN nq = w5 at *
  have e : (((s.ts i).acts.length : Nat) : Int) = ((s.ts i).acts.length : Int) := by omega
  obtain ⟨h7, b7⟩ := H5.out.setT2 hi (j := 1) (u := iv (((s.ts i).acts.length : Int))) (t := { s.ts i with pc := (s.ts i).acts.length }) rfl rfl (fun v => by
    unfold SetEq
    show (#[v, iv (((s.ts i).acts.length : Int)), iv (s.ts i).guard, iv (s.ts i).wait, .bool (s.ts i).died, iv (s.ts i).num] : Array Value) = #[v, iv (((s.ts i).acts.length : Nat) : Int), iv (s.ts i).guard, iv (s.ts i).wait, .bool (s.ts i).died, iv (s.ts i).num]
    rw [e])
  obtain ⟨h8, b8⟩ := h7.only0 (Only.refl [] _).drew
  have H8 := Lib.hid h8
  have B8 := Lib.hid ((B5.out.trans b7).trans b8)
  clear h7 b7 h8 b8 e
  go_wp2
  refine Lex.wp_region_text (by kernel_rfl) (by kernel_rfl) ?_
  go_wp2
  refine Lex.sq_done (by rfl) ?_
  generalize (w5.setCell ⟨b i, 1, none⟩ (.int .i64 (((s.ts i).acts.length : Int)))).drew = w8 at *
  clear hcell hfr hlt
  have he : (s.setT i { s.ts i with pc := (s.ts i).acts.length }).ts i = { s.ts i with pc := (s.ts i).acts.length } := setT_ts _ _ _
  obtain ⟨v8, hB8, _⟩ := H8.out.task i hi
  rw [he] at hB8
  obtain ⟨hc8, hf8, hl8⟩ := hB8.facts
  obtain ⟨h6, b6⟩ := H8.out.setT2 hi (j := 1) (u := iv (((s.ts i).acts.length : Nat) + 1)) (t0 := { s.ts i with pc := (s.ts i).acts.length }) (t := { s.ts i with pc := (s.ts i).acts.length + 1 }) he rfl (fun v => pc_step v { s.ts i with pc := (s.ts i).acts.length })
  have H6 := Lib.hid h6
  have B6 := Lib.hid (B8.out.trans b6)
  have HE := Lib.hid (show (s.setT i { s.ts i with pc := (s.ts i).acts.length }).go i = (s.setT i { s.ts i with pc := (s.ts i).acts.length }).setT i { s.ts i with pc := (s.ts i).acts.length + 1 } by unfold S.go; rw [he])
  clear hB8 h6 b6 he
  go_wp2
  go_end0
  exact ⟨rfl, ⟨_, by rw [HE.out]; exact H6.out⟩, B6.out⟩
end
end Go.Proofs.Ytompelilflckkaa
