/-
  The scheduler: a task's act, kind by kind: locks, waits, numbers.
-/
import Derived.Test.YtompelilflckkaaMg
set_option linter.unusedSimpArgs false
set_option linter.unusedVariables false
namespace Go.Proofs.Ytompelilflckkaa
open Go.RowKit Go.Fl

section
variable {w : World} {base r : Nat} {f : Nat → Value} {b : Nat → Nat} {s : S} {i L x y : Nat} {n : Int}
set_option maxRecDepth 100000 in
set_option maxHeartbeats 3200000 in
theorem do2_yes (h : RS w base r f b s) (hw : WF s L) (hi : i < s.n) (hp : (s.ts i).pc < (s.ts i).acts.length) (ha : (s.ts i).act = ⟨2, x, y, n⟩) (hx : x < 4) (hl : s.locks x = i) :
    Calls Try.prog 46 #[.pointer (some ⟨r, 0, none⟩), iv i, .pointer (some ⟨b i, 0, none⟩)] w fun e w' => e = .returned (.tuple #[]) ∧ (∃ f', RS w' base r f' b ((s.setLock x (-1)).go i)) ∧ Below base w w' := by
  have HA := Lib.hid (act_ok h hi hp)
  have hpl := hw.lens i hi
  rw [ha] at HA
  unfold actV at HA
  dsimp only at HA
  go_enter Try.func46, Try.ntmps46
  go_wp2_with fail
  refine HA.out.mono ?_
  clear HA
  rintro e w2 ⟨rfl, hO2⟩
  obtain ⟨h2, b2⟩ := h.only0 hO2
  obtain ⟨h3, b3⟩ := h2.only0 ((Only.refl [] w2).alloc (.cells #[iv 2, iv x, iv y, iv n] 47))
  have hbx : Blk (w2.alloc (.cells #[iv 2, iv x, iv y, iv n] 47)) w2.heap.size 47 #[iv 2, iv x, iv y, iv n] := Blk.new _ _ _
  have HX := Lib.hid hbx
  have B3 := Lib.hid (b2.trans b3)
  have HO3 := Lib.hid (hO2.alloc (.cells #[iv 2, iv x, iv y, iv n] 47))
  obtain ⟨hcx, _, hltx⟩ := hbx.facts
  have H3 := Lib.hid h3
  have hnr : w2.heap.size ≠ r := fun e => by have := h2.lt; omega
  have hlr := h3.lt
  clear hO2 h2 b2 b3 hbx h
  have hF := Lib.hid (free_yes h3 hx hl)
  obtain ⟨h4, b4⟩ := h3.lock hx (-1)
  have H5 := Lib.hid h4
  have B5 := Lib.hid (B3.out.trans b4)
  clear h3 h4 b4
  go_wp2_with fail
  refine hF.out.mono ?_
  clear hF
  rintro e w5 ⟨rfl, hw5⟩
  rw [← hw5] at H5 B5
  clear hw5
  obtain ⟨v5, hB5, _⟩ := H5.out.task i hi
  obtain ⟨hc5, hf5, hl5⟩ := hB5.facts
  have hq5 := (show ((s.setLock x (-1)).ts i).pc < (s.ts i).acts.length from hp)
  obtain ⟨h6, b6⟩ := H5.out.setT2 hi (j := 1) (u := iv (((s.setLock x (-1)).ts i).pc + 1)) (t := { (s.setLock x (-1)).ts i with pc := ((s.setLock x (-1)).ts i).pc + 1 }) rfl rfl (fun v => pc_step v _)
  have H6 := Lib.hid h6
  have B6 := Lib.hid (B5.out.trans b6)
  clear hB5 h6 b6
  go_wp2
  go_end0
  exact ⟨rfl, ⟨_, H6.out⟩, B6.out⟩
set_option maxRecDepth 100000 in
set_option maxHeartbeats 3200000 in
theorem do2_no (h : RS w base r f b s) (hw : WF s L) (hi : i < s.n) (hp : (s.ts i).pc < (s.ts i).acts.length) (ha : (s.ts i).act = ⟨2, x, y, n⟩) (hx : x < 4) (hl : ¬ s.locks x = i) :
    Calls Try.prog 46 #[.pointer (some ⟨r, 0, none⟩), iv i, .pointer (some ⟨b i, 0, none⟩)] w fun e w' => e = .panicked [{ v := boomV (-1), recovered := false }] ∧ (∃ f', RS w' base r f' b s) ∧ Only [] w w' := by
  have HA := Lib.hid (act_ok h hi hp)
  have hpl := hw.lens i hi
  rw [ha] at HA
  unfold actV at HA
  dsimp only at HA
  go_enter Try.func46, Try.ntmps46
  go_wp2_with fail
  refine HA.out.mono ?_
  clear HA
  rintro e w2 ⟨rfl, hO2⟩
  obtain ⟨h2, b2⟩ := h.only0 hO2
  obtain ⟨h3, b3⟩ := h2.only0 ((Only.refl [] w2).alloc (.cells #[iv 2, iv x, iv y, iv n] 47))
  have hbx : Blk (w2.alloc (.cells #[iv 2, iv x, iv y, iv n] 47)) w2.heap.size 47 #[iv 2, iv x, iv y, iv n] := Blk.new _ _ _
  have HX := Lib.hid hbx
  have B3 := Lib.hid (b2.trans b3)
  have HO3 := Lib.hid (hO2.alloc (.cells #[iv 2, iv x, iv y, iv n] 47))
  obtain ⟨hcx, _, hltx⟩ := hbx.facts
  have H3 := Lib.hid h3
  have hnr : w2.heap.size ≠ r := fun e => by have := h2.lt; omega
  have hlr := h3.lt
  clear hO2 h2 b2 b3 hbx h
  have hF := Lib.hid (free_no h3 hx hl)
  clear h3
  go_wp2_with fail
  refine hF.out.mono ?_
  clear hF
  rintro e w5 ⟨rfl, rfl⟩
  go_wp2
  exact ⟨rfl, rfl, ⟨_, H3.out⟩, HO3.out⟩
set_option maxRecDepth 100000 in
set_option maxHeartbeats 3200000 in
theorem do3_one (h : RS w base r f b s) (hw : WF s L) (hi : i < s.n) (hp : (s.ts i).pc < (s.ts i).acts.length) (ha : (s.ts i).act = ⟨3, x, y, n⟩) (hx : x < 4) (hy : y < 4) (hw0 : (s.ts i).wait = 0) (hl : s.locks y = i) (hL : L ≤ 65536) :
    Calls Try.prog 46 #[.pointer (some ⟨r, 0, none⟩), iv i, .pointer (some ⟨b i, 0, none⟩)] w fun e w' => e = .returned (.tuple #[]) ∧ (∃ f', RS w' base r f' b (((s.setLock y (-1)).setT i { s.ts i with wait := 1 }).setCond x (s.conds x ++ [i]))) ∧ Below base w w' := by
  have HA := Lib.hid (act_ok h hi hp)
  have hpl := hw.lens i hi
  rw [ha] at HA
  unfold actV at HA
  dsimp only at HA
  go_enter Try.func46, Try.ntmps46
  go_wp2_with fail
  refine HA.out.mono ?_
  clear HA
  rintro e w2 ⟨rfl, hO2⟩
  obtain ⟨h2, b2⟩ := h.only0 hO2
  obtain ⟨h3, b3⟩ := h2.only0 ((Only.refl [] w2).alloc (.cells #[iv 3, iv x, iv y, iv n] 47))
  have hbx : Blk (w2.alloc (.cells #[iv 3, iv x, iv y, iv n] 47)) w2.heap.size 47 #[iv 3, iv x, iv y, iv n] := Blk.new _ _ _
  have HX := Lib.hid hbx
  have B3 := Lib.hid (b2.trans b3)
  have HO3 := Lib.hid (hO2.alloc (.cells #[iv 3, iv x, iv y, iv n] 47))
  obtain ⟨hcx, _, hltx⟩ := hbx.facts
  have H3 := Lib.hid h3
  have hnr : w2.heap.size ≠ r := fun e => by have := h2.lt; omega
  have hlr := h3.lt
  clear hO2 h2 b2 b3 hbx h
  have hF := Lib.hid (wait_one (n := n) h3 hi hx hy hw0 hl (Nat.le_trans (hw.conds x).2 hL))
  clear h3
  go_wp2_with fail
  refine hF.out.mono ?_
  clear hF
  rintro e w5 ⟨rfl, hR, hB⟩
  have HR := Lib.hid hR
  have HB := Lib.hid hB
  clear hR hB
  go_wp2
  exact bodyPost_ret (results_none rfl _ _ _) rfl ⟨rfl, HR.out, B3.out.trans HB.out⟩
set_option maxRecDepth 100000 in
set_option maxHeartbeats 3200000 in
theorem do3_no (h : RS w base r f b s) (hw : WF s L) (hi : i < s.n) (hp : (s.ts i).pc < (s.ts i).acts.length) (ha : (s.ts i).act = ⟨3, x, y, n⟩) (hx : x < 4) (hy : y < 4) (hw0 : (s.ts i).wait = 0) (hl : ¬ s.locks y = i) :
    Calls Try.prog 46 #[.pointer (some ⟨r, 0, none⟩), iv i, .pointer (some ⟨b i, 0, none⟩)] w fun e w' => e = .panicked [{ v := boomV (-1), recovered := false }] ∧ (∃ f', RS w' base r f' b s) ∧ Only [] w w' := by
  have HA := Lib.hid (act_ok h hi hp)
  have hpl := hw.lens i hi
  rw [ha] at HA
  unfold actV at HA
  dsimp only at HA
  go_enter Try.func46, Try.ntmps46
  go_wp2_with fail
  refine HA.out.mono ?_
  clear HA
  rintro e w2 ⟨rfl, hO2⟩
  obtain ⟨h2, b2⟩ := h.only0 hO2
  obtain ⟨h3, b3⟩ := h2.only0 ((Only.refl [] w2).alloc (.cells #[iv 3, iv x, iv y, iv n] 47))
  have hbx : Blk (w2.alloc (.cells #[iv 3, iv x, iv y, iv n] 47)) w2.heap.size 47 #[iv 3, iv x, iv y, iv n] := Blk.new _ _ _
  have HX := Lib.hid hbx
  have B3 := Lib.hid (b2.trans b3)
  have HO3 := Lib.hid (hO2.alloc (.cells #[iv 3, iv x, iv y, iv n] 47))
  obtain ⟨hcx, _, hltx⟩ := hbx.facts
  have H3 := Lib.hid h3
  have hnr : w2.heap.size ≠ r := fun e => by have := h2.lt; omega
  have hlr := h3.lt
  clear hO2 h2 b2 b3 hbx h
  have hF := Lib.hid (wait_no (n := n) (x := x) h3 hi hy hw0 hl)
  clear h3
  go_wp2_with fail
  refine hF.out.mono ?_
  clear hF
  rintro e w5 ⟨rfl, hR, hB⟩
  have HR := Lib.hid hR
  have HB := Lib.hid hB
  clear hR hB
  go_wp2
  exact ⟨rfl, rfl, HR.out, HO3.out.trans HB.out⟩
set_option maxRecDepth 100000 in
set_option maxHeartbeats 3200000 in
theorem do3_two (h : RS w base r f b s) (hw : WF s L) (hi : i < s.n) (hp : (s.ts i).pc < (s.ts i).acts.length) (ha : (s.ts i).act = ⟨3, x, y, n⟩) (hy : y < 4) (hw0 : (s.ts i).wait = 2) :
    Calls Try.prog 46 #[.pointer (some ⟨r, 0, none⟩), iv i, .pointer (some ⟨b i, 0, none⟩)] w fun e w' => e = .returned (.tuple #[]) ∧ (∃ f', RS w' base r f' b (((s.setT i { s.ts i with wait := 0 }).setLock y i).go i)) ∧ Below base w w' := by
  have HA := Lib.hid (act_ok h hi hp)
  have hpl := hw.lens i hi
  rw [ha] at HA
  unfold actV at HA
  dsimp only at HA
  go_enter Try.func46, Try.ntmps46
  go_wp2_with fail
  refine HA.out.mono ?_
  clear HA
  rintro e w2 ⟨rfl, hO2⟩
  obtain ⟨h2, b2⟩ := h.only0 hO2
  obtain ⟨h3, b3⟩ := h2.only0 ((Only.refl [] w2).alloc (.cells #[iv 3, iv x, iv y, iv n] 47))
  have hbx : Blk (w2.alloc (.cells #[iv 3, iv x, iv y, iv n] 47)) w2.heap.size 47 #[iv 3, iv x, iv y, iv n] := Blk.new _ _ _
  have HX := Lib.hid hbx
  have B3 := Lib.hid (b2.trans b3)
  have HO3 := Lib.hid (hO2.alloc (.cells #[iv 3, iv x, iv y, iv n] 47))
  obtain ⟨hcx, _, hltx⟩ := hbx.facts
  have H3 := Lib.hid h3
  have hnr : w2.heap.size ≠ r := fun e => by have := h2.lt; omega
  have hlr := h3.lt
  clear hO2 h2 b2 b3 hbx h
  have hF := Lib.hid (wait_two (n := n) (x := x) h3 hi hy hw0)
  clear h3
  go_wp2_with fail
  refine hF.out.mono ?_
  clear hF
  rintro e w5 ⟨rfl, ⟨f5, hR⟩, hB⟩
  have H5 := Lib.hid hR
  have B5 := Lib.hid (B3.out.trans hB)
  have he : ((s.setT i { s.ts i with wait := 0 }).setLock y i).ts i = { s.ts i with wait := 0 } := setT_ts _ _ _
  clear hR hB
  obtain ⟨v5, hB5, _⟩ := H5.out.task i hi
  rw [he] at hB5
  obtain ⟨hc5, hf5, hl5⟩ := hB5.facts
  obtain ⟨h6, b6⟩ := H5.out.setT2 hi (j := 1) (u := iv ((s.ts i).pc + 1)) (t0 := { s.ts i with wait := 0 }) (t := { s.ts i with wait := 0, pc := (s.ts i).pc + 1 }) he rfl (fun v => pc_step v { s.ts i with wait := 0 })
  have H6 := Lib.hid h6
  have B6 := Lib.hid (B5.out.trans b6)
  have HE := Lib.hid (show ((s.setT i { s.ts i with wait := 0 }).setLock y i).go i = ((s.setT i { s.ts i with wait := 0 }).setLock y i).setT i { s.ts i with wait := 0, pc := (s.ts i).pc + 1 } by unfold S.go; rw [he])
  clear hB5 h6 b6 he
  go_wp2
  go_end0
  exact ⟨rfl, ⟨_, by rw [HE.out]; exact H6.out⟩, B6.out⟩
set_option maxRecDepth 100000 in
set_option maxHeartbeats 3200000 in
theorem do8 (h : RS w base r f b s) (hw : WF s L) (hi : i < s.n) (hp : (s.ts i).pc < (s.ts i).acts.length) (ha : (s.ts i).act = ⟨8, x, y, n⟩) (hx : x < 8) :
    Calls Try.prog 46 #[.pointer (some ⟨r, 0, none⟩), iv i, .pointer (some ⟨b i, 0, none⟩)] w fun e w' => e = .returned (.tuple #[]) ∧ (∃ f', RS w' base r f' b ((s.setReg x (wrap64 (s.regs x + n))).go i)) ∧ Below base w w' := by
  have HA := Lib.hid (act_ok h hi hp)
  have hpl := hw.lens i hi
  rw [ha] at HA
  unfold actV at HA
  dsimp only at HA
  go_enter Try.func46, Try.ntmps46
  go_wp2_with fail
  refine HA.out.mono ?_
  clear HA
  rintro e w2 ⟨rfl, hO2⟩
  obtain ⟨h2, b2⟩ := h.only0 hO2
  obtain ⟨h3, b3⟩ := h2.only0 ((Only.refl [] w2).alloc (.cells #[iv 8, iv x, iv y, iv n] 47))
  have hbx : Blk (w2.alloc (.cells #[iv 8, iv x, iv y, iv n] 47)) w2.heap.size 47 #[iv 8, iv x, iv y, iv n] := Blk.new _ _ _
  have HX := Lib.hid hbx
  have B3 := Lib.hid (b2.trans b3)
  have HO3 := Lib.hid (hO2.alloc (.cells #[iv 8, iv x, iv y, iv n] 47))
  obtain ⟨hcx, _, hltx⟩ := hbx.facts
  have H3 := Lib.hid h3
  have hnr : w2.heap.size ≠ r := fun e => by have := h2.lt; omega
  have hlr := h3.lt
  clear hO2 h2 b2 b3 hbx h
  have hxz : (x : Int) < 8 := by omega
  have cl := h3.cReg hx
  have hfr := h3.rc.blk.frozen
  obtain ⟨h4, b4⟩ := h3.reg hx (wrap64 (s.regs x + n))
  obtain ⟨h5, b5⟩ := h4.only0 (Only.refl [] _).drew
  have H5 := Lib.hid h5
  have B5 := Lib.hid ((B3.out.trans b4).trans b5)
  clear h3 h4 b4 h5 b5
  go_wp2
  generalize w2.alloc (.cells #[.int .i64 8, .int .i64 x, .int .i64 y, .int .i64 n] 47) = w3 at *
  refine Lex.wp_region_text (by kernel_rfl) (by kernel_rfl) ?_
  go_wp2
  refine Lex.sq_done (by rfl) ?_
  generalize (w3.setCell ⟨r, 14 + x, none⟩ (.int .i64 (wrap64 (s.regs x + n)))).drew = w5 at *
  obtain ⟨v5, hB5, _⟩ := H5.out.task i hi
  obtain ⟨hc5, hf5, hl5⟩ := hB5.facts
  have hq5 := (show ((s.setReg x (wrap64 (s.regs x + n))).ts i).pc < (s.ts i).acts.length from hp)
  obtain ⟨h6, b6⟩ := H5.out.setT2 hi (j := 1) (u := iv (((s.setReg x (wrap64 (s.regs x + n))).ts i).pc + 1)) (t := { (s.setReg x (wrap64 (s.regs x + n))).ts i with pc := ((s.setReg x (wrap64 (s.regs x + n))).ts i).pc + 1 }) rfl rfl (fun v => pc_step v _)
  have H6 := Lib.hid h6
  have B6 := Lib.hid (B5.out.trans b6)
  clear hB5 h6 b6
  go_wp2
  go_end0
  exact ⟨rfl, ⟨_, H6.out⟩, B6.out⟩
set_option maxRecDepth 100000 in
set_option maxHeartbeats 3200000 in
theorem do9 (h : RS w base r f b s) (hw : WF s L) (hi : i < s.n) (hp : (s.ts i).pc < (s.ts i).acts.length) (ha : (s.ts i).act = ⟨9, x, y, n⟩) (hx : x < 8) (hy : y < 8) :
    Calls Try.prog 46 #[.pointer (some ⟨r, 0, none⟩), iv i, .pointer (some ⟨b i, 0, none⟩)] w fun e w' => e = .returned (.tuple #[]) ∧ (∃ f', RS w' base r f' b ((s.setReg y (s.regs x)).go i)) ∧ Below base w w' := by
  have HA := Lib.hid (act_ok h hi hp)
  have hpl := hw.lens i hi
  rw [ha] at HA
  unfold actV at HA
  dsimp only at HA
  go_enter Try.func46, Try.ntmps46
  go_wp2_with fail
  refine HA.out.mono ?_
  clear HA
  rintro e w2 ⟨rfl, hO2⟩
  obtain ⟨h2, b2⟩ := h.only0 hO2
  obtain ⟨h3, b3⟩ := h2.only0 ((Only.refl [] w2).alloc (.cells #[iv 9, iv x, iv y, iv n] 47))
  have hbx : Blk (w2.alloc (.cells #[iv 9, iv x, iv y, iv n] 47)) w2.heap.size 47 #[iv 9, iv x, iv y, iv n] := Blk.new _ _ _
  have HX := Lib.hid hbx
  have B3 := Lib.hid (b2.trans b3)
  have HO3 := Lib.hid (hO2.alloc (.cells #[iv 9, iv x, iv y, iv n] 47))
  obtain ⟨hcx, _, hltx⟩ := hbx.facts
  have H3 := Lib.hid h3
  have hnr : w2.heap.size ≠ r := fun e => by have := h2.lt; omega
  have hlr := h3.lt
  clear hO2 h2 b2 b3 hbx h
  have hxz : (x : Int) < 8 := by omega
  have hyz : (y : Int) < 8 := by omega
  have cl := h3.cReg hx
  have cl2 := h3.cReg hy
  have hfr := h3.rc.blk.frozen
  obtain ⟨h4, b4⟩ := h3.reg hy (s.regs x)
  obtain ⟨h5, b5⟩ := h4.only0 (Only.refl [] _).drew
  have H5 := Lib.hid h5
  have B5 := Lib.hid ((B3.out.trans b4).trans b5)
  clear h3 h4 b4 h5 b5
  go_wp2
  generalize w2.alloc (.cells #[.int .i64 9, .int .i64 x, .int .i64 y, .int .i64 n] 47) = w3 at *
  refine Lex.wp_region_text (by kernel_rfl) (by kernel_rfl) ?_
  go_wp2
  refine Lex.sq_done (by rfl) ?_
  generalize (w3.setCell ⟨r, 14 + y, none⟩ (.int .i64 (s.regs x))).drew = w5 at *
  obtain ⟨v5, hB5, _⟩ := H5.out.task i hi
  obtain ⟨hc5, hf5, hl5⟩ := hB5.facts
  have hq5 := (show ((s.setReg y (s.regs x)).ts i).pc < (s.ts i).acts.length from hp)
  obtain ⟨h6, b6⟩ := H5.out.setT2 hi (j := 1) (u := iv (((s.setReg y (s.regs x)).ts i).pc + 1)) (t := { (s.setReg y (s.regs x)).ts i with pc := ((s.setReg y (s.regs x)).ts i).pc + 1 }) rfl rfl (fun v => pc_step v _)
  have H6 := Lib.hid h6
  have B6 := Lib.hid (B5.out.trans b6)
  clear hB5 h6 b6
  go_wp2
  go_end0
  exact ⟨rfl, ⟨_, H6.out⟩, B6.out⟩
set_option maxRecDepth 100000 in
set_option maxHeartbeats 3200000 in
theorem do13 (h : RS w base r f b s) (hw : WF s L) (hi : i < s.n) (hp : (s.ts i).pc < (s.ts i).acts.length) (ha : (s.ts i).act = ⟨13, x, y, n⟩)  :
    Calls Try.prog 46 #[.pointer (some ⟨r, 0, none⟩), iv i, .pointer (some ⟨b i, 0, none⟩)] w fun e w' => e = .returned (.tuple #[]) ∧ (∃ f', RS w' base r f' b ((s.setT i { s.ts i with guard := n }).go i)) ∧ Below base w w' := by
  have HA := Lib.hid (act_ok h hi hp)
  have hpl := hw.lens i hi
  rw [ha] at HA
  unfold actV at HA
  dsimp only at HA
  go_enter Try.func46, Try.ntmps46
  go_wp2_with fail
  refine HA.out.mono ?_
  clear HA
  rintro e w2 ⟨rfl, hO2⟩
  obtain ⟨h2, b2⟩ := h.only0 hO2
  obtain ⟨h3, b3⟩ := h2.only0 ((Only.refl [] w2).alloc (.cells #[iv 13, iv x, iv y, iv n] 47))
  have hbx : Blk (w2.alloc (.cells #[iv 13, iv x, iv y, iv n] 47)) w2.heap.size 47 #[iv 13, iv x, iv y, iv n] := Blk.new _ _ _
  have HX := Lib.hid hbx
  have B3 := Lib.hid (b2.trans b3)
  have HO3 := Lib.hid (hO2.alloc (.cells #[iv 13, iv x, iv y, iv n] 47))
  obtain ⟨hcx, _, hltx⟩ := hbx.facts
  have H3 := Lib.hid h3
  have hnr : w2.heap.size ≠ r := fun e => by have := h2.lt; omega
  have hlr := h3.lt
  clear hO2 h2 b2 b3 hbx h
  obtain ⟨v, hB, _⟩ := h3.task i hi
  obtain ⟨hcell, hfr, hlt⟩ := hB.facts
  obtain ⟨h4, b4⟩ := h3.setT2 hi (j := 2) (u := iv n) (t := { s.ts i with guard := n }) rfl rfl (fun _ => rfl)
  have H5 := Lib.hid h4
  have B5 := Lib.hid (B3.out.trans b4)
  have he : (s.setT i { s.ts i with guard := n }).ts i = { s.ts i with guard := n } := setT_ts _ _ _
  have hne : w2.heap.size ≠ b i := fun e => by have := (e ▸ HX.out : Blk (w2.alloc (.cells #[iv 13, iv x, iv y, iv n] 47)) (b i) 47 _).ty_eq hB; cases this
  clear h3 h4 b4 hB
  obtain ⟨v5, hB5, _⟩ := H5.out.task i hi
  rw [he] at hB5
  obtain ⟨hc5, hf5, hl5⟩ := hB5.facts
  obtain ⟨h6, b6⟩ := H5.out.setT2 hi (j := 1) (u := iv ((s.ts i).pc + 1)) (t0 := { s.ts i with guard := n }) (t := { s.ts i with guard := n, pc := (s.ts i).pc + 1 }) he rfl (fun v => pc_step v { s.ts i with guard := n })
  have H6 := Lib.hid h6
  have B6 := Lib.hid (B5.out.trans b6)
  have HE := Lib.hid (show (s.setT i { s.ts i with guard := n }).go i = (s.setT i { s.ts i with guard := n }).setT i { s.ts i with guard := n, pc := (s.ts i).pc + 1 } by unfold S.go; rw [he])
  clear hB5 h6 b6 he
  go_wp2
  go_end0
  exact ⟨rfl, ⟨_, by rw [HE.out]; exact H6.out⟩, B6.out⟩
end
end Go.Proofs.Ytompelilflckkaa
