/-
  The scheduler: a task's act, kind by kind.
-/
import Derived.Test.YtompelilflckkaaSi
namespace Go.Proofs.Ytompelilflckkaa
open Go.RowKit Go.Fl

theorem pc_step (v : Value) (t : T) : SetEq (#[v, iv t.pc, iv t.guard, iv t.wait, .bool t.died, iv t.num].setIfInBounds 1 (iv ((t.pc : Int) + 1))) #[v, iv ((t.pc + 1 : Nat) : Int), iv t.guard, iv t.wait, .bool t.died, iv t.num] := by
  unfold SetEq
  rw [Int.natCast_add]
  rfl
section
variable {w : World} {base r : Nat} {f : Nat → Value} {b : Nat → Nat} {s : S} {i L x y : Nat} {n : Int}
set_option maxRecDepth 100000 in
set_option maxHeartbeats 3200000 in
theorem do1 (h : RS w base r f b s) (hw : WF s L) (hi : i < s.n) (hp : (s.ts i).pc < (s.ts i).acts.length) (ha : (s.ts i).act = ⟨1, x, y, n⟩) (hx : x < 4) :
    Calls Try.prog 46 #[.pointer (some ⟨r, 0, none⟩), iv i, .pointer (some ⟨b i, 0, none⟩)] w fun e w' => e = .returned (.tuple #[]) ∧ (∃ f', RS w' base r f' b ((s.setLock x i).go i)) ∧ Below base w w' := by
  have HA := Lib.hid (act_ok h hi hp)
  have hpl := hw.lens i hi
  rw [ha] at HA
  unfold actV at HA
  dsimp only at HA
  go_enter Try.func46, Try.ntmps46
  go_wp2_with fail
  refine HA.out.mono ?_
  clear HA
  rintro e w2 ⟨rfl, hO2⟩
  obtain ⟨h2, b2⟩ := h.only0 hO2
  obtain ⟨h3, b3⟩ := h2.only0 ((Only.refl [] w2).alloc (.cells #[iv 1, iv x, iv y, iv n] 47))
  have hbx : Blk (w2.alloc (.cells #[iv 1, iv x, iv y, iv n] 47)) w2.heap.size 47 #[iv 1, iv x, iv y, iv n] := Blk.new _ _ _
  have HX := Lib.hid hbx
  have B3 := Lib.hid (b2.trans b3)
  have HO3 := Lib.hid (hO2.alloc (.cells #[iv 1, iv x, iv y, iv n] 47))
  obtain ⟨hcx, _, hltx⟩ := hbx.facts
  have H3 := Lib.hid h3
  have hnr : w2.heap.size ≠ r := fun e => by have := h2.lt; omega
  have hlr := h3.lt
  clear hO2 h2 b2 b3 hbx h
  have hxz : (x : Int) < 4 := by omega
  have cl := h3.cLock hx
  have hfr := h3.rc.blk.frozen
  obtain ⟨h4, b4⟩ := h3.lock hx i
  obtain ⟨h5, b5⟩ := h4.only0 (Only.refl [] _).drew
  have H5 := Lib.hid h5
  have B5 := Lib.hid ((B3.out.trans b4).trans b5)
  clear h3 h4 b4 h5 b5
  go_wp2
  generalize w2.alloc (.cells #[.int .i64 1, .int .i64 x, .int .i64 y, .int .i64 n] 47) = w3 at *
  refine Lex.wp_region_text (by kernel_rfl) (by kernel_rfl) ?_
  go_wp2
  refine Lex.sq_done (by rfl) ?_
  generalize (w3.setCell ⟨r, 2 + x, none⟩ (.int .i64 i)).drew = w5 at *
  obtain ⟨v5, hB5, _⟩ := H5.out.task i hi
  obtain ⟨hc5, hf5, hl5⟩ := hB5.facts
  have hq5 := (show ((s.setLock x i).ts i).pc < (s.ts i).acts.length from hp)
  obtain ⟨h6, b6⟩ := H5.out.setT2 hi (j := 1) (u := iv (((s.setLock x i).ts i).pc + 1)) (t := { (s.setLock x i).ts i with pc := ((s.setLock x i).ts i).pc + 1 }) rfl rfl (fun v => pc_step v _)
  have H6 := Lib.hid h6
  have B6 := Lib.hid (B5.out.trans b6)
  clear hB5 h6 b6
  go_wp2
  go_end0
  exact ⟨rfl, ⟨_, H6.out⟩, B6.out⟩
set_option maxRecDepth 100000 in
set_option maxHeartbeats 3200000 in
theorem do11 (h : RS w base r f b s) (hw : WF s L) (hi : i < s.n) (hp : (s.ts i).pc < (s.ts i).acts.length) (ha : (s.ts i).act = ⟨11, x, y, n⟩) :
    Calls Try.prog 46 #[.pointer (some ⟨r, 0, none⟩), iv i, .pointer (some ⟨b i, 0, none⟩)] w fun e w' => e = .returned (.tuple #[]) ∧ (∃ f', RS w' base r f' b (s.go i)) ∧ Below base w w' := by
  have HA := Lib.hid (act_ok h hi hp)
  have hpl := hw.lens i hi
  rw [ha] at HA
  unfold actV at HA
  dsimp only at HA
  go_enter Try.func46, Try.ntmps46
  go_wp2_with fail
  refine HA.out.mono ?_
  clear HA
  rintro e w2 ⟨rfl, hO2⟩
  obtain ⟨h2, b2⟩ := h.only0 hO2
  obtain ⟨h3, b3⟩ := h2.only0 ((Only.refl [] w2).alloc (.cells #[iv 11, iv x, iv y, iv n] 47))
  have hbx : Blk (w2.alloc (.cells #[iv 11, iv x, iv y, iv n] 47)) w2.heap.size 47 #[iv 11, iv x, iv y, iv n] := Blk.new _ _ _
  have HX := Lib.hid hbx
  have B3 := Lib.hid (b2.trans b3)
  have HO3 := Lib.hid (hO2.alloc (.cells #[iv 11, iv x, iv y, iv n] 47))
  obtain ⟨hcx, _, hltx⟩ := hbx.facts
  have H3 := Lib.hid h3
  have hnr : w2.heap.size ≠ r := fun e => by have := h2.lt; omega
  have hlr := h3.lt
  clear hO2 h2 b2 b3 hbx h
  have H5 := H3
  have B5 := B3
  obtain ⟨v5, hB5, _⟩ := H5.out.task i hi
  obtain ⟨hc5, hf5, hl5⟩ := hB5.facts
  have hq5 := hp
  obtain ⟨h6, b6⟩ := H5.out.setT2 hi (j := 1) (u := iv ((s.ts i).pc + 1)) (t := { s.ts i with pc := (s.ts i).pc + 1 }) rfl rfl (fun v => pc_step v _)
  have H6 := Lib.hid h6
  have B6 := Lib.hid (B5.out.trans b6)
  clear hB5 h6 b6
  go_wp2
  go_end0
  exact ⟨rfl, ⟨_, H6.out⟩, B6.out⟩
set_option maxRecDepth 100000 in
set_option maxHeartbeats 3200000 in
theorem do12 (h : RS w base r f b s) (hw : WF s L) (hi : i < s.n) (hp : (s.ts i).pc < (s.ts i).acts.length) (ha : (s.ts i).act = ⟨12, x, y, n⟩) :
    Calls Try.prog 46 #[.pointer (some ⟨r, 0, none⟩), iv i, .pointer (some ⟨b i, 0, none⟩)] w fun e w' => e = .panicked [{ v := boomV n, recovered := false }] ∧ (∃ f', RS w' base r f' b s) ∧ Only [] w w' := by
  have HA := Lib.hid (act_ok h hi hp)
  have hpl := hw.lens i hi
  rw [ha] at HA
  unfold actV at HA
  dsimp only at HA
  go_enter Try.func46, Try.ntmps46
  go_wp2_with fail
  refine HA.out.mono ?_
  clear HA
  rintro e w2 ⟨rfl, hO2⟩
  obtain ⟨h2, b2⟩ := h.only0 hO2
  obtain ⟨h3, b3⟩ := h2.only0 ((Only.refl [] w2).alloc (.cells #[iv 12, iv x, iv y, iv n] 47))
  have hbx : Blk (w2.alloc (.cells #[iv 12, iv x, iv y, iv n] 47)) w2.heap.size 47 #[iv 12, iv x, iv y, iv n] := Blk.new _ _ _
  have HX := Lib.hid hbx
  have B3 := Lib.hid (b2.trans b3)
  have HO3 := Lib.hid (hO2.alloc (.cells #[iv 12, iv x, iv y, iv n] 47))
  obtain ⟨hcx, _, hltx⟩ := hbx.facts
  have H3 := Lib.hid h3
  have hnr : w2.heap.size ≠ r := fun e => by have := h2.lt; omega
  have hlr := h3.lt
  clear hO2 h2 b2 b3 hbx h
  go_wp2
  exact ⟨rfl, rfl, ⟨_, H3.out⟩, HO3.out⟩
end
end Go.Proofs.Ytompelilflckkaa
