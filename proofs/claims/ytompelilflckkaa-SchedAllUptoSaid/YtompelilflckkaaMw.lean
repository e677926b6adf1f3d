/-
  The document's own run: a step: waits, wakes.
-/
import Derived.Test.YtompelilflckkaaMv
set_option linter.unusedSimpArgs false
set_option linter.unusedVariables false
namespace Go.Proofs.Ytompelilflckkaa
open Go.RowKit Go.Fl

section
variable {w : World} {base r g o : Nat} {f : Nat → Value} {tv : Value} {vs : Nat → Value} {acts : Nat → List A} {raw : Nat → RT} {s : S} {i p x y : Nat} {n : Int}
set_option maxRecDepth 100000 in
set_option maxHeartbeats 12800000 in
theorem st_wait_two (h : R2 w base r g o f tv vs acts raw s) (hn16 : s.n ≤ 16) (hl256 : (acts i).length ≤ 256) (hi : i < s.n) (hp : p < (acts i).length) (hat : (raw i).at_ = p) (ha : (acts i)[p] = ⟨3, x, y, n⟩) (hy : y < 4) (hw0 : (raw i).wait = 2) :
    Calls Try.prog 26 #[.pointer (some ⟨r, 0, none⟩), iv i] w fun e w' => e = .returned (.tuple #[]) ∧ (∃ f', R2 w' base r g o f' tv vs acts (upd raw i (RT.ended (acts i).length { raw i with wait := 0, at_ := (p : Int) + 1 })) (S.setLock { s with last := (i : Int) } y i)) ∧ BT base w w' := by
  have hz : (i : Int) < (s.n : Int) := by omega
  have hpz : (p : Int) < ((acts i).length : Int) := by omega
  have hne := h.gne (by omega)
  obtain ⟨cap0, _, c0⟩ := h.tcell (by omega)
  obtain ⟨k0, k1, k2, k3, k4, k5, hl, hf⟩ := h.cells hi
  have hlr := h.lt
  have hfr := h.frz
  have cl := h.rc.cellv (k := 22) (by omega) spec2_last
  obtain ⟨h1, b1⟩ := h.last (i : Int)
  have H1 := Lib.hid h1
  have B1 := Lib.hid b1
  clear h h1 b1 k0 k1 k2 k3 k4 k5
  go_enter Try.func26, Try.ntmps26
  go_wp2
  generalize w.setCell ⟨r, 22, none⟩ (.int .i64 i) = w1 at *
  clear c0 hl hf hlr hfr cl
  obtain ⟨k0, k1, k2, k3, k4, k5, hl, hf⟩ := H1.out.cells (i := i) hi
  obtain ⟨ga, oa, ca, hv, hgs, q0, q1, q2, q3⟩ := H1.out.acell (i := i) hi hp
  rw [hat] at k1
  rw [hv] at k0
  rw [ha] at q0 q1 q2 q3
  dsimp only at q0 q1 q2 q3
  refine Lex.wp_region_text (by kernel_rfl) (by kernel_rfl) ?_
  go_wp2
  refine Lex.sq_done (by rfl) ?_
  obtain ⟨h2, b2⟩ := H1.out.only0 ((Only.refl [] w1).alloc (.cells #[iv 3, iv x, iv y, iv n] 47)).drew
  have HX : Hid (Blk (w1.alloc (.cells #[iv 3, iv x, iv y, iv n] 47)).drew w1.heap.size 47 #[iv 3, iv x, iv y, iv n]) := Lib.hid (Blk.new w1 47 #[iv 3, iv x, iv y, iv n]).drew
  have H2 := Lib.hid h2
  have B2 := Lib.hid (B1.out.trans b2)
  have hxr : w1.heap.size ≠ r := fun e => by have := H1.out.lt; omega
  have hxg : w1.heap.size ≠ g := fun e => by omega
  clear h2 b2 k0 k1 k2 k3 k4 k5 hl hf q0 q1 q2 q3 hgs B1
  generalize (w1.alloc (.cells #[.int .i64 3, .int .i64 x, .int .i64 y, .int .i64 n] 47)).drew = w2 at *
  generalize w1.heap.size = bx at *
  obtain ⟨k0, k1, k2, k3, k4, k5, hl, hf⟩ := H2.out.cells (i := i) hi
  rw [hat] at k1
  have hlr := H2.out.lt
  have hfr := H2.out.frz
  obtain ⟨m1, _, m2⟩ := HX.out.facts
  have HW := Lib.hid (wait2_two (x := x) (n := n) H2.out hn16 hi hy hw0)
  go_wp2_with fail
  refine HW.out.mono ?_
  clear HW
  rintro e w3 ⟨rfl, ⟨f3, hR⟩, hB⟩
  have H3 := Lib.hid hR
  have B3 := Lib.hid (B2.out.trans hB)
  clear hR hB
  clear k0 k1 k2 k3 k4 k5 hl hf hlr hfr m1 m2
  obtain ⟨k0, k1, k2, k3, k4, k5, hl, hf⟩ := H3.out.cells (i := i) hi
  have hlr := H3.out.lt
  have hfr := H3.out.frz
  obtain ⟨h6, b6⟩ := H3.out.raw_ (i := i) hi (j := 1) (u := iv ((p : Int) + 1)) (x := { raw i with wait := 0, at_ := (p : Int) + 1 }) (by omega) (by omega) (fun cs q v hx => by rw [upd_same] at hx; exact hx.at_ ((p : Int) + 1))
  have HE := Lib.hid (ends_r h6 (i := i) hi)
  rw [upd_same, upd_upd, upd_upd] at HE
  have B6 := Lib.hid (B3.out.trans b6)
  clear h6 b6
  go_wp2_with fail
  refine HE.out.mono ?_
  clear HE
  rintro e w' ⟨rfl, hR, hB⟩
  have HR := Lib.hid hR
  have HB := Lib.hid (B6.out.trans hB)
  clear hR hB
  go_wp2
  go_end0
  exact ⟨rfl, ⟨_, HR.out⟩, HB.out⟩
set_option maxRecDepth 100000 in
set_option maxHeartbeats 12800000 in
theorem st_wait_one (h : R2 w base r g o f tv vs acts raw s) (hn16 : s.n ≤ 16) (hl256 : (acts i).length ≤ 256) (hi : i < s.n) (hp : p < (acts i).length) (hat : (raw i).at_ = p) (ha : (acts i)[p] = ⟨3, x, y, n⟩) (hx : x < 4) (hy : y < 4) (hw0 : (raw i).wait = 0) (hlk : s.locks y = i) (hcl : (s.conds x).length ≤ 65536) :
    Calls Try.prog 26 #[.pointer (some ⟨r, 0, none⟩), iv i] w fun e w' => e = .returned (.tuple #[]) ∧ (∃ f', R2 w' base r g o f' tv vs acts (upd raw i { raw i with wait := 1 }) ((S.setLock { s with last := (i : Int) } y (-1)).setCond x (s.conds x ++ [i]))) ∧ BT base w w' := by
  have hz : (i : Int) < (s.n : Int) := by omega
  have hpz : (p : Int) < ((acts i).length : Int) := by omega
  have hne := h.gne (by omega)
  obtain ⟨cap0, _, c0⟩ := h.tcell (by omega)
  obtain ⟨k0, k1, k2, k3, k4, k5, hl, hf⟩ := h.cells hi
  have hlr := h.lt
  have hfr := h.frz
  have cl := h.rc.cellv (k := 22) (by omega) spec2_last
  obtain ⟨h1, b1⟩ := h.last (i : Int)
  have H1 := Lib.hid h1
  have B1 := Lib.hid b1
  clear h h1 b1 k0 k1 k2 k3 k4 k5
  go_enter Try.func26, Try.ntmps26
  go_wp2
  generalize w.setCell ⟨r, 22, none⟩ (.int .i64 i) = w1 at *
  clear c0 hl hf hlr hfr cl
  obtain ⟨k0, k1, k2, k3, k4, k5, hl, hf⟩ := H1.out.cells (i := i) hi
  obtain ⟨ga, oa, ca, hv, hgs, q0, q1, q2, q3⟩ := H1.out.acell (i := i) hi hp
  rw [hat] at k1
  rw [hv] at k0
  rw [ha] at q0 q1 q2 q3
  dsimp only at q0 q1 q2 q3
  refine Lex.wp_region_text (by kernel_rfl) (by kernel_rfl) ?_
  go_wp2
  refine Lex.sq_done (by rfl) ?_
  obtain ⟨h2, b2⟩ := H1.out.only0 ((Only.refl [] w1).alloc (.cells #[iv 3, iv x, iv y, iv n] 47)).drew
  have HX : Hid (Blk (w1.alloc (.cells #[iv 3, iv x, iv y, iv n] 47)).drew w1.heap.size 47 #[iv 3, iv x, iv y, iv n]) := Lib.hid (Blk.new w1 47 #[iv 3, iv x, iv y, iv n]).drew
  have H2 := Lib.hid h2
  have B2 := Lib.hid (B1.out.trans b2)
  have hxr : w1.heap.size ≠ r := fun e => by have := H1.out.lt; omega
  have hxg : w1.heap.size ≠ g := fun e => by omega
  clear h2 b2 k0 k1 k2 k3 k4 k5 hl hf q0 q1 q2 q3 hgs B1
  generalize (w1.alloc (.cells #[.int .i64 3, .int .i64 x, .int .i64 y, .int .i64 n] 47)).drew = w2 at *
  generalize w1.heap.size = bx at *
  obtain ⟨k0, k1, k2, k3, k4, k5, hl, hf⟩ := H2.out.cells (i := i) hi
  rw [hat] at k1
  have hlr := H2.out.lt
  have hfr := H2.out.frz
  obtain ⟨m1, _, m2⟩ := HX.out.facts
  have HW := Lib.hid (wait2_one (n := n) H2.out hn16 hi hx hy hw0 hlk hcl)
  go_wp2_with fail
  refine HW.out.mono ?_
  clear HW
  rintro e w3 ⟨rfl, hR, hB⟩
  have H3 := Lib.hid hR
  have B3 := Lib.hid (B2.out.trans hB)
  clear hR hB
  go_wp2
  exact bodyPost_ret (results_none rfl _ _ _) rfl ⟨rfl, H3.out, B3.out⟩
set_option maxRecDepth 100000 in
set_option maxHeartbeats 12800000 in
theorem st_wait_die (h : R2 w base r g o f tv vs acts raw s) (hn16 : s.n ≤ 16) (hl256 : (acts i).length ≤ 256) (hi : i < s.n) (hp : p < (acts i).length) (hat : (raw i).at_ = p) (ha : (acts i)[p] = ⟨3, x, y, n⟩) (hy : y < 4) (hw0 : (raw i).wait = 0) (hlk : ¬ s.locks y = i) (hgd : (raw i).guard < 0) :
    Calls Try.prog 26 #[.pointer (some ⟨r, 0, none⟩), iv i] w fun e w' => e = .returned (.tuple #[]) ∧ (∃ f', R2 w' base r g o f' tv vs acts (upd raw i { raw i with how := 2, num := -1 }) ({ s with last := (i : Int) })) ∧ BT base w w' := by
  have hz : (i : Int) < (s.n : Int) := by omega
  have hpz : (p : Int) < ((acts i).length : Int) := by omega
  have hne := h.gne (by omega)
  obtain ⟨cap0, _, c0⟩ := h.tcell (by omega)
  obtain ⟨k0, k1, k2, k3, k4, k5, hl, hf⟩ := h.cells hi
  have hlr := h.lt
  have hfr := h.frz
  have cl := h.rc.cellv (k := 22) (by omega) spec2_last
  obtain ⟨h1, b1⟩ := h.last (i : Int)
  have H1 := Lib.hid h1
  have B1 := Lib.hid b1
  clear h h1 b1 k0 k1 k2 k3 k4 k5
  go_enter Try.func26, Try.ntmps26
  go_wp2
  generalize w.setCell ⟨r, 22, none⟩ (.int .i64 i) = w1 at *
  clear c0 hl hf hlr hfr cl
  obtain ⟨k0, k1, k2, k3, k4, k5, hl, hf⟩ := H1.out.cells (i := i) hi
  obtain ⟨ga, oa, ca, hv, hgs, q0, q1, q2, q3⟩ := H1.out.acell (i := i) hi hp
  rw [hat] at k1
  rw [hv] at k0
  rw [ha] at q0 q1 q2 q3
  dsimp only at q0 q1 q2 q3
  refine Lex.wp_region_text (by kernel_rfl) (by kernel_rfl) ?_
  go_wp2
  refine Lex.sq_done (by rfl) ?_
  obtain ⟨h2, b2⟩ := H1.out.only0 ((Only.refl [] w1).alloc (.cells #[iv 3, iv x, iv y, iv n] 47)).drew
  have HX : Hid (Blk (w1.alloc (.cells #[iv 3, iv x, iv y, iv n] 47)).drew w1.heap.size 47 #[iv 3, iv x, iv y, iv n]) := Lib.hid (Blk.new w1 47 #[iv 3, iv x, iv y, iv n]).drew
  have H2 := Lib.hid h2
  have B2 := Lib.hid (B1.out.trans b2)
  have hxr : w1.heap.size ≠ r := fun e => by have := H1.out.lt; omega
  have hxg : w1.heap.size ≠ g := fun e => by omega
  clear h2 b2 k0 k1 k2 k3 k4 k5 hl hf q0 q1 q2 q3 hgs B1
  generalize (w1.alloc (.cells #[.int .i64 3, .int .i64 x, .int .i64 y, .int .i64 n] 47)).drew = w2 at *
  generalize w1.heap.size = bx at *
  obtain ⟨k0, k1, k2, k3, k4, k5, hl, hf⟩ := H2.out.cells (i := i) hi
  rw [hat] at k1
  have hlr := H2.out.lt
  have hfr := H2.out.frz
  obtain ⟨m1, _, m2⟩ := HX.out.facts
  have HW := Lib.hid (wait2_no (x := x) (n := n) H2.out hn16 hi hy hw0 hlk)
  go_wp2_with fail
  refine HW.out.mono ?_
  clear HW
  rintro e w3 ⟨rfl, hO⟩
  have HO3 := Lib.hid hO
  obtain ⟨h3, b3⟩ := H2.out.only0 hO
  have B3 := Lib.hid (B2.out.trans b3)
  have HP := Lib.hid (panics_die h3 (i := i) hi (-1) hgd)
  clear h3 b3 hO
  go_wp2_with fail
  refine HP.out.mono ?_
  clear HP
  rintro e w' ⟨rfl, hR, hB⟩
  have HR := Lib.hid hR
  have HB := Lib.hid (B3.out.trans hB)
  clear hR hB
  go_wp2
  exact bodyPost_ret (results_none rfl _ _ _) rfl ⟨rfl, ⟨_, HR.out⟩, HB.out⟩
set_option maxRecDepth 100000 in
set_option maxHeartbeats 12800000 in
theorem st_wait_caught (h : R2 w base r g o f tv vs acts raw s) (hn16 : s.n ≤ 16) (hl256 : (acts i).length ≤ 256) (hi : i < s.n) (hp : p < (acts i).length) (hat : (raw i).at_ = p) (ha : (acts i)[p] = ⟨3, x, y, n⟩) (hy : y < 4) (hw0 : (raw i).wait = 0) (hlk : ¬ s.locks y = i) (hgd : 0 ≤ (raw i).guard) :
    Calls Try.prog 26 #[.pointer (some ⟨r, 0, none⟩), iv i] w fun e w' => e = .returned (.tuple #[]) ∧ (∃ f', R2 w' base r g o f' tv vs acts (upd raw i (RT.ended (acts i).length { raw i with at_ := (raw i).guard, guard := -1 })) (S.setReg { s with last := (i : Int) } 7 (-1))) ∧ BT base w w' := by
  have hz : (i : Int) < (s.n : Int) := by omega
  have hpz : (p : Int) < ((acts i).length : Int) := by omega
  have hne := h.gne (by omega)
  obtain ⟨cap0, _, c0⟩ := h.tcell (by omega)
  obtain ⟨k0, k1, k2, k3, k4, k5, hl, hf⟩ := h.cells hi
  have hlr := h.lt
  have hfr := h.frz
  have cl := h.rc.cellv (k := 22) (by omega) spec2_last
  obtain ⟨h1, b1⟩ := h.last (i : Int)
  have H1 := Lib.hid h1
  have B1 := Lib.hid b1
  clear h h1 b1 k0 k1 k2 k3 k4 k5
  go_enter Try.func26, Try.ntmps26
  go_wp2
  generalize w.setCell ⟨r, 22, none⟩ (.int .i64 i) = w1 at *
  clear c0 hl hf hlr hfr cl
  obtain ⟨k0, k1, k2, k3, k4, k5, hl, hf⟩ := H1.out.cells (i := i) hi
  obtain ⟨ga, oa, ca, hv, hgs, q0, q1, q2, q3⟩ := H1.out.acell (i := i) hi hp
  rw [hat] at k1
  rw [hv] at k0
  rw [ha] at q0 q1 q2 q3
  dsimp only at q0 q1 q2 q3
  refine Lex.wp_region_text (by kernel_rfl) (by kernel_rfl) ?_
  go_wp2
  refine Lex.sq_done (by rfl) ?_
  obtain ⟨h2, b2⟩ := H1.out.only0 ((Only.refl [] w1).alloc (.cells #[iv 3, iv x, iv y, iv n] 47)).drew
  have HX : Hid (Blk (w1.alloc (.cells #[iv 3, iv x, iv y, iv n] 47)).drew w1.heap.size 47 #[iv 3, iv x, iv y, iv n]) := Lib.hid (Blk.new w1 47 #[iv 3, iv x, iv y, iv n]).drew
  have H2 := Lib.hid h2
  have B2 := Lib.hid (B1.out.trans b2)
  have hxr : w1.heap.size ≠ r := fun e => by have := H1.out.lt; omega
  have hxg : w1.heap.size ≠ g := fun e => by omega
  clear h2 b2 k0 k1 k2 k3 k4 k5 hl hf q0 q1 q2 q3 hgs B1
  generalize (w1.alloc (.cells #[.int .i64 3, .int .i64 x, .int .i64 y, .int .i64 n] 47)).drew = w2 at *
  generalize w1.heap.size = bx at *
  obtain ⟨k0, k1, k2, k3, k4, k5, hl, hf⟩ := H2.out.cells (i := i) hi
  rw [hat] at k1
  have hlr := H2.out.lt
  have hfr := H2.out.frz
  obtain ⟨m1, _, m2⟩ := HX.out.facts
  have HW := Lib.hid (wait2_no (x := x) (n := n) H2.out hn16 hi hy hw0 hlk)
  go_wp2_with fail
  refine HW.out.mono ?_
  clear HW
  rintro e w3 ⟨rfl, hO⟩
  have HO3 := Lib.hid hO
  obtain ⟨h3, b3⟩ := H2.out.only0 hO
  have B3 := Lib.hid (B2.out.trans b3)
  have HP := Lib.hid (panics_caught h3 (i := i) hi (-1) hgd)
  clear h3 b3 hO
  go_wp2_with fail
  refine HP.out.mono ?_
  clear HP
  rintro e w' ⟨rfl, hR, hB⟩
  have HR := Lib.hid hR
  have HB := Lib.hid (B3.out.trans hB)
  clear hR hB
  go_wp2
  exact bodyPost_ret (results_none rfl _ _ _) rfl ⟨rfl, HR.out, HB.out⟩
set_option maxRecDepth 100000 in
set_option maxHeartbeats 12800000 in
theorem st_signal (h : R2 w base r g o f tv vs acts raw s) (hn16 : s.n ≤ 16) (hl256 : (acts i).length ≤ 256) (hi : i < s.n) (hp : p < (acts i).length) (hat : (raw i).at_ = p) (ha : (acts i)[p] = ⟨4, x, y, n⟩) (hx : x < 4) (hcl : (s.conds x).length ≤ 65536) (hin : ∀ j ∈ s.conds x, j < s.n) :
    Calls Try.prog 26 #[.pointer (some ⟨r, 0, none⟩), iv i] w fun e w' => e = .returned (.tuple #[]) ∧ (∃ f', R2 w' base r g o f' tv vs acts (upd (wakeRaw raw ((s.conds x).take 1)) i (RT.ended (acts i).length { wakeRaw raw ((s.conds x).take 1) i with at_ := (p : Int) + 1 })) (S.setCond { s with last := (i : Int) } x ((s.conds x).drop 1))) ∧ BT base w w' := by
  have hz : (i : Int) < (s.n : Int) := by omega
  have hpz : (p : Int) < ((acts i).length : Int) := by omega
  have hne := h.gne (by omega)
  obtain ⟨cap0, _, c0⟩ := h.tcell (by omega)
  obtain ⟨k0, k1, k2, k3, k4, k5, hl, hf⟩ := h.cells hi
  have hlr := h.lt
  have hfr := h.frz
  have cl := h.rc.cellv (k := 22) (by omega) spec2_last
  obtain ⟨h1, b1⟩ := h.last (i : Int)
  have H1 := Lib.hid h1
  have B1 := Lib.hid b1
  clear h h1 b1 k0 k1 k2 k3 k4 k5
  go_enter Try.func26, Try.ntmps26
  go_wp2
  generalize w.setCell ⟨r, 22, none⟩ (.int .i64 i) = w1 at *
  clear c0 hl hf hlr hfr cl
  obtain ⟨k0, k1, k2, k3, k4, k5, hl, hf⟩ := H1.out.cells (i := i) hi
  obtain ⟨ga, oa, ca, hv, hgs, q0, q1, q2, q3⟩ := H1.out.acell (i := i) hi hp
  rw [hat] at k1
  rw [hv] at k0
  rw [ha] at q0 q1 q2 q3
  dsimp only at q0 q1 q2 q3
  refine Lex.wp_region_text (by kernel_rfl) (by kernel_rfl) ?_
  go_wp2
  refine Lex.sq_done (by rfl) ?_
  obtain ⟨h2, b2⟩ := H1.out.only0 ((Only.refl [] w1).alloc (.cells #[iv 4, iv x, iv y, iv n] 47)).drew
  have HX : Hid (Blk (w1.alloc (.cells #[iv 4, iv x, iv y, iv n] 47)).drew w1.heap.size 47 #[iv 4, iv x, iv y, iv n]) := Lib.hid (Blk.new w1 47 #[iv 4, iv x, iv y, iv n]).drew
  have H2 := Lib.hid h2
  have B2 := Lib.hid (B1.out.trans b2)
  have hxr : w1.heap.size ≠ r := fun e => by have := H1.out.lt; omega
  have hxg : w1.heap.size ≠ g := fun e => by omega
  clear h2 b2 k0 k1 k2 k3 k4 k5 hl hf q0 q1 q2 q3 hgs B1
  generalize (w1.alloc (.cells #[.int .i64 4, .int .i64 x, .int .i64 y, .int .i64 n] 47)).drew = w2 at *
  generalize w1.heap.size = bx at *
  obtain ⟨k0, k1, k2, k3, k4, k5, hl, hf⟩ := H2.out.cells (i := i) hi
  rw [hat] at k1
  have hlr := H2.out.lt
  have hfr := H2.out.frz
  obtain ⟨m1, _, m2⟩ := HX.out.facts
  have HW := Lib.hid (wake2_ok (k := 1) H2.out hx (by omega) hcl hin hn16)
  go_wp2_with fail
  refine HW.out.mono ?_
  clear HW
  rintro e w3 ⟨rfl, ⟨f3, hR⟩, hB⟩
  have H3 : Hid (R2 w3 base r g o f3 tv vs acts (wakeRaw raw ((s.conds x).take 1)) (S.setCond { s with last := (i : Int) } x ((s.conds x).drop 1))) := Lib.hid hR
  have B3 := Lib.hid (B2.out.trans hB)
  clear hR hB
  clear k0 k1 k2 k3 k4 k5 hl hf hlr hfr m1 m2
  obtain ⟨k0, k1, k2, k3, k4, k5, hl, hf⟩ := H3.out.cells (i := i) hi
  have hlr := H3.out.lt
  have hfr := H3.out.frz
  obtain ⟨h6, b6⟩ := H3.out.raw_ (i := i) hi (j := 1) (u := iv ((p : Int) + 1)) (x := { (wakeRaw raw ((s.conds x).take 1)) i with at_ := (p : Int) + 1 }) (by omega) (by omega) (fun cs q v hx => hx.at_ ((p : Int) + 1))
  have HE := Lib.hid (ends_r h6 (i := i) hi)
  rw [upd_same, upd_upd] at HE
  have B6 := Lib.hid (B3.out.trans b6)
  clear h6 b6
  go_wp2_with fail
  refine HE.out.mono ?_
  clear HE
  rintro e w' ⟨rfl, hR, hB⟩
  have HR := Lib.hid hR
  have HB := Lib.hid (B6.out.trans hB)
  clear hR hB
  go_wp2
  go_end0
  exact ⟨rfl, ⟨_, HR.out⟩, HB.out⟩
set_option maxRecDepth 100000 in
set_option maxHeartbeats 12800000 in
theorem st_cast (h : R2 w base r g o f tv vs acts raw s) (hn16 : s.n ≤ 16) (hl256 : (acts i).length ≤ 256) (hi : i < s.n) (hp : p < (acts i).length) (hat : (raw i).at_ = p) (ha : (acts i)[p] = ⟨5, x, y, n⟩) (hx : x < 4) (hcl : (s.conds x).length ≤ 65536) (hin : ∀ j ∈ s.conds x, j < s.n) :
    Calls Try.prog 26 #[.pointer (some ⟨r, 0, none⟩), iv i] w fun e w' => e = .returned (.tuple #[]) ∧ (∃ f', R2 w' base r g o f' tv vs acts (upd (wakeRaw raw ((s.conds x).take 16)) i (RT.ended (acts i).length { wakeRaw raw ((s.conds x).take 16) i with at_ := (p : Int) + 1 })) (S.setCond { s with last := (i : Int) } x ((s.conds x).drop 16))) ∧ BT base w w' := by
  have hz : (i : Int) < (s.n : Int) := by omega
  have hpz : (p : Int) < ((acts i).length : Int) := by omega
  have hne := h.gne (by omega)
  obtain ⟨cap0, _, c0⟩ := h.tcell (by omega)
  obtain ⟨k0, k1, k2, k3, k4, k5, hl, hf⟩ := h.cells hi
  have hlr := h.lt
  have hfr := h.frz
  have cl := h.rc.cellv (k := 22) (by omega) spec2_last
  obtain ⟨h1, b1⟩ := h.last (i : Int)
  have H1 := Lib.hid h1
  have B1 := Lib.hid b1
  clear h h1 b1 k0 k1 k2 k3 k4 k5
  go_enter Try.func26, Try.ntmps26
  go_wp2
  generalize w.setCell ⟨r, 22, none⟩ (.int .i64 i) = w1 at *
  clear c0 hl hf hlr hfr cl
  obtain ⟨k0, k1, k2, k3, k4, k5, hl, hf⟩ := H1.out.cells (i := i) hi
  obtain ⟨ga, oa, ca, hv, hgs, q0, q1, q2, q3⟩ := H1.out.acell (i := i) hi hp
  rw [hat] at k1
  rw [hv] at k0
  rw [ha] at q0 q1 q2 q3
  dsimp only at q0 q1 q2 q3
  refine Lex.wp_region_text (by kernel_rfl) (by kernel_rfl) ?_
  go_wp2
  refine Lex.sq_done (by rfl) ?_
  obtain ⟨h2, b2⟩ := H1.out.only0 ((Only.refl [] w1).alloc (.cells #[iv 5, iv x, iv y, iv n] 47)).drew
  have HX : Hid (Blk (w1.alloc (.cells #[iv 5, iv x, iv y, iv n] 47)).drew w1.heap.size 47 #[iv 5, iv x, iv y, iv n]) := Lib.hid (Blk.new w1 47 #[iv 5, iv x, iv y, iv n]).drew
  have H2 := Lib.hid h2
  have B2 := Lib.hid (B1.out.trans b2)
  have hxr : w1.heap.size ≠ r := fun e => by have := H1.out.lt; omega
  have hxg : w1.heap.size ≠ g := fun e => by omega
  clear h2 b2 k0 k1 k2 k3 k4 k5 hl hf q0 q1 q2 q3 hgs B1
  generalize (w1.alloc (.cells #[.int .i64 5, .int .i64 x, .int .i64 y, .int .i64 n] 47)).drew = w2 at *
  generalize w1.heap.size = bx at *
  obtain ⟨k0, k1, k2, k3, k4, k5, hl, hf⟩ := H2.out.cells (i := i) hi
  rw [hat] at k1
  have hlr := H2.out.lt
  have hfr := H2.out.frz
  obtain ⟨m1, _, m2⟩ := HX.out.facts
  have HW := Lib.hid (wake2_ok (k := 16) H2.out hx (by omega) hcl hin hn16)
  go_wp2_with fail
  refine HW.out.mono ?_
  clear HW
  rintro e w3 ⟨rfl, ⟨f3, hR⟩, hB⟩
  have H3 : Hid (R2 w3 base r g o f3 tv vs acts (wakeRaw raw ((s.conds x).take 16)) (S.setCond { s with last := (i : Int) } x ((s.conds x).drop 16))) := Lib.hid hR
  have B3 := Lib.hid (B2.out.trans hB)
  clear hR hB
  clear k0 k1 k2 k3 k4 k5 hl hf hlr hfr m1 m2
  obtain ⟨k0, k1, k2, k3, k4, k5, hl, hf⟩ := H3.out.cells (i := i) hi
  have hlr := H3.out.lt
  have hfr := H3.out.frz
  obtain ⟨h6, b6⟩ := H3.out.raw_ (i := i) hi (j := 1) (u := iv ((p : Int) + 1)) (x := { (wakeRaw raw ((s.conds x).take 16)) i with at_ := (p : Int) + 1 }) (by omega) (by omega) (fun cs q v hx => hx.at_ ((p : Int) + 1))
  have HE := Lib.hid (ends_r h6 (i := i) hi)
  rw [upd_same, upd_upd] at HE
  have B6 := Lib.hid (B3.out.trans b6)
  clear h6 b6
  go_wp2_with fail
  refine HE.out.mono ?_
  clear HE
  rintro e w' ⟨rfl, hR, hB⟩
  have HR := Lib.hid hR
  have HB := Lib.hid (B6.out.trans hB)
  clear hR hB
  go_wp2
  go_end0
  exact ⟨rfl, ⟨_, HR.out⟩, HB.out⟩
end
end Go.Proofs.Ytompelilflckkaa
