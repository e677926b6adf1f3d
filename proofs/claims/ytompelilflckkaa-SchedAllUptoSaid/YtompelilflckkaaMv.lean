/-
  The document's own run: a step, kind by kind.
-/
import Derived.Test.YtompelilflckkaaMu
set_option linter.unusedSimpArgs false
set_option linter.unusedVariables false
namespace Go.Proofs.Ytompelilflckkaa
open Go.RowKit Go.Fl

section
variable {w : World} {base r g o : Nat} {f : Nat → Value} {tv : Value} {vs : Nat → Value} {acts : Nat → List A} {raw : Nat → RT} {s : S} {i p x y : Nat} {n : Int}
set_option maxRecDepth 100000 in
set_option maxHeartbeats 6400000 in
theorem st_yield (h : R2 w base r g o f tv vs acts raw s) (hn16 : s.n ≤ 16) (hl256 : (acts i).length ≤ 256) (hi : i < s.n) (hp : p < (acts i).length) (hat : (raw i).at_ = p) (ha : (acts i)[p] = ⟨11, x, y, n⟩) :
    Calls Try.prog 26 #[.pointer (some ⟨r, 0, none⟩), iv i] w fun e w' => e = .returned (.tuple #[]) ∧ (∃ f', R2 w' base r g o f' tv vs acts (upd raw i (RT.ended (acts i).length { raw i with at_ := (p : Int) + 1 })) ({ s with last := (i : Int) })) ∧ BT base w w' := by
  have hz : (i : Int) < (s.n : Int) := by omega
  have hpz : (p : Int) < ((acts i).length : Int) := by omega
  have hne := h.gne (by omega)
  obtain ⟨cap0, _, c0⟩ := h.tcell (by omega)
  obtain ⟨k0, k1, k2, k3, k4, k5, hl, hf⟩ := h.cells hi
  have hlr := h.lt
  have hfr := h.frz
  have cl := h.rc.cellv (k := 22) (by omega) spec2_last
  obtain ⟨h1, b1⟩ := h.last (i : Int)
  have H1 := Lib.hid h1
  have B1 := Lib.hid b1
  clear h h1 b1 k0 k1 k2 k3 k4 k5
  go_enter Try.func26, Try.ntmps26
  go_wp2
  generalize w.setCell ⟨r, 22, none⟩ (.int .i64 i) = w1 at *
  clear c0 hl hf hlr hfr cl
  obtain ⟨k0, k1, k2, k3, k4, k5, hl, hf⟩ := H1.out.cells (i := i) hi
  obtain ⟨ga, oa, ca, hv, hgs, q0, q1, q2, q3⟩ := H1.out.acell (i := i) hi hp
  rw [hat] at k1
  rw [hv] at k0
  rw [ha] at q0 q1 q2 q3
  dsimp only at q0 q1 q2 q3
  refine Lex.wp_region_text (by kernel_rfl) (by kernel_rfl) ?_
  go_wp2
  refine Lex.sq_done (by rfl) ?_
  obtain ⟨h2, b2⟩ := H1.out.only0 ((Only.refl [] w1).alloc (.cells #[iv 11, iv x, iv y, iv n] 47)).drew
  have HX : Hid (Blk (w1.alloc (.cells #[iv 11, iv x, iv y, iv n] 47)).drew w1.heap.size 47 #[iv 11, iv x, iv y, iv n]) := Lib.hid (Blk.new w1 47 #[iv 11, iv x, iv y, iv n]).drew
  have H2 := Lib.hid h2
  have B2 := Lib.hid (B1.out.trans b2)
  have hxr : w1.heap.size ≠ r := fun e => by have := H1.out.lt; omega
  have hxg : w1.heap.size ≠ g := fun e => by omega
  clear h2 b2 k0 k1 k2 k3 k4 k5 hl hf q0 q1 q2 q3 hgs B1
  generalize (w1.alloc (.cells #[.int .i64 11, .int .i64 x, .int .i64 y, .int .i64 n] 47)).drew = w2 at *
  generalize w1.heap.size = bx at *
  obtain ⟨k0, k1, k2, k3, k4, k5, hl, hf⟩ := H2.out.cells (i := i) hi
  rw [hat] at k1
  have hlr := H2.out.lt
  have hfr := H2.out.frz
  obtain ⟨m1, _, m2⟩ := HX.out.facts
  obtain ⟨h6, b6⟩ := H2.out.raw_ (i := i) hi (j := 1) (u := iv ((p : Int) + 1)) (x := { raw i with at_ := (p : Int) + 1 }) (by omega) (by omega) (fun cs q v hx => hx.at_ ((p : Int) + 1))
  have HE := Lib.hid (ends_r h6 (i := i) hi)
  rw [upd_same, upd_upd] at HE
  have B6 := Lib.hid (B2.out.trans b6)
  clear h6 b6
  go_wp2_with fail
  refine HE.out.mono ?_
  clear HE
  rintro e w' ⟨rfl, hR, hB⟩
  have HR := Lib.hid hR
  have HB := Lib.hid (B6.out.trans hB)
  clear hR hB
  go_wp2
  go_end0
  exact ⟨rfl, ⟨_, HR.out⟩, HB.out⟩
set_option maxRecDepth 100000 in
set_option maxHeartbeats 6400000 in
theorem st_lock (h : R2 w base r g o f tv vs acts raw s) (hn16 : s.n ≤ 16) (hl256 : (acts i).length ≤ 256) (hi : i < s.n) (hp : p < (acts i).length) (hat : (raw i).at_ = p) (ha : (acts i)[p] = ⟨1, x, y, n⟩) (hx : x < 4) :
    Calls Try.prog 26 #[.pointer (some ⟨r, 0, none⟩), iv i] w fun e w' => e = .returned (.tuple #[]) ∧ (∃ f', R2 w' base r g o f' tv vs acts (upd raw i (RT.ended (acts i).length { raw i with at_ := (p : Int) + 1 })) (S.setLock { s with last := (i : Int) } x i)) ∧ BT base w w' := by
  have hxz : (x : Int) < 4 := by omega
  have hz : (i : Int) < (s.n : Int) := by omega
  have hpz : (p : Int) < ((acts i).length : Int) := by omega
  have hne := h.gne (by omega)
  obtain ⟨cap0, _, c0⟩ := h.tcell (by omega)
  obtain ⟨k0, k1, k2, k3, k4, k5, hl, hf⟩ := h.cells hi
  have hlr := h.lt
  have hfr := h.frz
  have cl := h.rc.cellv (k := 22) (by omega) spec2_last
  obtain ⟨h1, b1⟩ := h.last (i : Int)
  have H1 := Lib.hid h1
  have B1 := Lib.hid b1
  clear h h1 b1 k0 k1 k2 k3 k4 k5
  go_enter Try.func26, Try.ntmps26
  go_wp2
  generalize w.setCell ⟨r, 22, none⟩ (.int .i64 i) = w1 at *
  clear c0 hl hf hlr hfr cl
  obtain ⟨k0, k1, k2, k3, k4, k5, hl, hf⟩ := H1.out.cells (i := i) hi
  obtain ⟨ga, oa, ca, hv, hgs, q0, q1, q2, q3⟩ := H1.out.acell (i := i) hi hp
  rw [hat] at k1
  rw [hv] at k0
  rw [ha] at q0 q1 q2 q3
  dsimp only at q0 q1 q2 q3
  refine Lex.wp_region_text (by kernel_rfl) (by kernel_rfl) ?_
  go_wp2
  refine Lex.sq_done (by rfl) ?_
  obtain ⟨h2, b2⟩ := H1.out.only0 ((Only.refl [] w1).alloc (.cells #[iv 1, iv x, iv y, iv n] 47)).drew
  have HX : Hid (Blk (w1.alloc (.cells #[iv 1, iv x, iv y, iv n] 47)).drew w1.heap.size 47 #[iv 1, iv x, iv y, iv n]) := Lib.hid (Blk.new w1 47 #[iv 1, iv x, iv y, iv n]).drew
  have H2 := Lib.hid h2
  have B2 := Lib.hid (B1.out.trans b2)
  have hxr : w1.heap.size ≠ r := fun e => by have := H1.out.lt; omega
  have hxg : w1.heap.size ≠ g := fun e => by omega
  clear h2 b2 k0 k1 k2 k3 k4 k5 hl hf q0 q1 q2 q3 hgs B1
  generalize (w1.alloc (.cells #[.int .i64 1, .int .i64 x, .int .i64 y, .int .i64 n] 47)).drew = w2 at *
  generalize w1.heap.size = bx at *
  obtain ⟨k0, k1, k2, k3, k4, k5, hl, hf⟩ := H2.out.cells (i := i) hi
  rw [hat] at k1
  have hlr := H2.out.lt
  have hfr := H2.out.frz
  obtain ⟨m1, _, m2⟩ := HX.out.facts
  have c1 := H2.out.lcell hx
  obtain ⟨h3, b3⟩ := H2.out.lock hx (i : Int) ((i : Int) + 1) rfl
  obtain ⟨h4, b4⟩ := h3.only0 (Only.refl [] _).drew
  have H3 := Lib.hid h4
  have B3 := Lib.hid ((B2.out.trans b3).trans b4)
  clear h3 h4 b3 b4
  go_wp2
  refine Lex.wp_region_text (by kernel_rfl) (by kernel_rfl) ?_
  go_wp2
  refine Lex.sq_done (by rfl) ?_
  generalize (w2.setCell ⟨r, 1 + x, none⟩ (.int .i64 ((i : Int) + 1))).drew = w3 at *
  clear k0 k1 k2 k3 k4 k5 hl hf hlr hfr m1 m2
  obtain ⟨k0, k1, k2, k3, k4, k5, hl, hf⟩ := H3.out.cells (i := i) hi
  have hlr := H3.out.lt
  have hfr := H3.out.frz
  obtain ⟨h6, b6⟩ := H3.out.raw_ (i := i) hi (j := 1) (u := iv ((p : Int) + 1)) (x := { raw i with at_ := (p : Int) + 1 }) (by omega) (by omega) (fun cs q v hx => hx.at_ ((p : Int) + 1))
  have HE := Lib.hid (ends_r h6 (i := i) hi)
  rw [upd_same, upd_upd] at HE
  have B6 := Lib.hid (B3.out.trans b6)
  clear h6 b6
  go_wp2_with fail
  refine HE.out.mono ?_
  clear HE
  rintro e w' ⟨rfl, hR, hB⟩
  have HR := Lib.hid hR
  have HB := Lib.hid (B6.out.trans hB)
  clear hR hB
  go_wp2
  go_end0
  exact ⟨rfl, ⟨_, HR.out⟩, HB.out⟩
set_option maxRecDepth 100000 in
set_option maxHeartbeats 6400000 in
theorem st_unlock (h : R2 w base r g o f tv vs acts raw s) (hn16 : s.n ≤ 16) (hl256 : (acts i).length ≤ 256) (hi : i < s.n) (hp : p < (acts i).length) (hat : (raw i).at_ = p) (ha : (acts i)[p] = ⟨2, x, y, n⟩) (hx : x < 4) (hlk : s.locks x = i) :
    Calls Try.prog 26 #[.pointer (some ⟨r, 0, none⟩), iv i] w fun e w' => e = .returned (.tuple #[]) ∧ (∃ f', R2 w' base r g o f' tv vs acts (upd raw i (RT.ended (acts i).length { raw i with at_ := (p : Int) + 1 })) (S.setLock { s with last := (i : Int) } x (-1))) ∧ BT base w w' := by
  have hxz : (x : Int) < 4 := by omega
  have hiz : (i : Int) < 16 := by omega
  have hz : (i : Int) < (s.n : Int) := by omega
  have hpz : (p : Int) < ((acts i).length : Int) := by omega
  have hne := h.gne (by omega)
  obtain ⟨cap0, _, c0⟩ := h.tcell (by omega)
  obtain ⟨k0, k1, k2, k3, k4, k5, hl, hf⟩ := h.cells hi
  have hlr := h.lt
  have hfr := h.frz
  have cl := h.rc.cellv (k := 22) (by omega) spec2_last
  obtain ⟨h1, b1⟩ := h.last (i : Int)
  have H1 := Lib.hid h1
  have B1 := Lib.hid b1
  clear h h1 b1 k0 k1 k2 k3 k4 k5
  go_enter Try.func26, Try.ntmps26
  go_wp2
  generalize w.setCell ⟨r, 22, none⟩ (.int .i64 i) = w1 at *
  clear c0 hl hf hlr hfr cl
  obtain ⟨k0, k1, k2, k3, k4, k5, hl, hf⟩ := H1.out.cells (i := i) hi
  obtain ⟨ga, oa, ca, hv, hgs, q0, q1, q2, q3⟩ := H1.out.acell (i := i) hi hp
  rw [hat] at k1
  rw [hv] at k0
  rw [ha] at q0 q1 q2 q3
  dsimp only at q0 q1 q2 q3
  refine Lex.wp_region_text (by kernel_rfl) (by kernel_rfl) ?_
  go_wp2
  refine Lex.sq_done (by rfl) ?_
  obtain ⟨h2, b2⟩ := H1.out.only0 ((Only.refl [] w1).alloc (.cells #[iv 2, iv x, iv y, iv n] 47)).drew
  have HX : Hid (Blk (w1.alloc (.cells #[iv 2, iv x, iv y, iv n] 47)).drew w1.heap.size 47 #[iv 2, iv x, iv y, iv n]) := Lib.hid (Blk.new w1 47 #[iv 2, iv x, iv y, iv n]).drew
  have H2 := Lib.hid h2
  have B2 := Lib.hid (B1.out.trans b2)
  have hxr : w1.heap.size ≠ r := fun e => by have := H1.out.lt; omega
  have hxg : w1.heap.size ≠ g := fun e => by omega
  clear h2 b2 k0 k1 k2 k3 k4 k5 hl hf q0 q1 q2 q3 hgs B1
  generalize (w1.alloc (.cells #[.int .i64 2, .int .i64 x, .int .i64 y, .int .i64 n] 47)).drew = w2 at *
  generalize w1.heap.size = bx at *
  obtain ⟨k0, k1, k2, k3, k4, k5, hl, hf⟩ := H2.out.cells (i := i) hi
  rw [hat] at k1
  have hlr := H2.out.lt
  have hfr := H2.out.frz
  obtain ⟨m1, _, m2⟩ := HX.out.facts
  have c1 := H2.out.lcell hx
  change _ = some (iv (s.locks x + 1)) at c1
  rw [hlk] at c1
  obtain ⟨h2d, b2d⟩ := H2.out.only0 (Only.refl [] w2).drew
  have HXd := Lib.hid HX.out.drew
  have H2d := Lib.hid h2d
  have B2d := Lib.hid (B2.out.trans b2d)
  clear h2d b2d
  go_wp2
  refine Lex.wp_region_text (by kernel_rfl) (by kernel_rfl) ?_
  go_wp2
  refine Lex.sq_done (by rfl) ?_
  clear k0 k1 k2 k3 k4 k5 hl hf hlr hfr m1 m2 H2 B2 HX c1
  generalize w2.drew = w2 at *
  have H2 := H2d
  have B2 := B2d
  have HX := HXd
  clear H2d B2d HXd
  obtain ⟨k0, k1, k2, k3, k4, k5, hl, hf⟩ := H2.out.cells (i := i) hi
  rw [hat] at k1
  have hlr := H2.out.lt
  have hfr := H2.out.frz
  obtain ⟨m1, _, m2⟩ := HX.out.facts
  have c1 := H2.out.lcell hx
  obtain ⟨h3, b3⟩ := H2.out.lock hx (-1) 0 (by omega)
  obtain ⟨h4, b4⟩ := h3.only0 (Only.refl [] _).drew
  have H3 := Lib.hid h4
  have B3 := Lib.hid ((B2.out.trans b3).trans b4)
  clear h3 h4 b3 b4
  go_wp2
  refine Lex.wp_region_text (by kernel_rfl) (by kernel_rfl) ?_
  go_wp2
  refine Lex.sq_done (by rfl) ?_
  generalize (w2.setCell ⟨r, 1 + x, none⟩ (.int .i64 0)).drew = w3 at *
  clear k0 k1 k2 k3 k4 k5 hl hf hlr hfr m1 m2
  obtain ⟨k0, k1, k2, k3, k4, k5, hl, hf⟩ := H3.out.cells (i := i) hi
  have hlr := H3.out.lt
  have hfr := H3.out.frz
  obtain ⟨h6, b6⟩ := H3.out.raw_ (i := i) hi (j := 1) (u := iv ((p : Int) + 1)) (x := { raw i with at_ := (p : Int) + 1 }) (by omega) (by omega) (fun cs q v hx => hx.at_ ((p : Int) + 1))
  have HE := Lib.hid (ends_r h6 (i := i) hi)
  rw [upd_same, upd_upd] at HE
  have B6 := Lib.hid (B3.out.trans b6)
  clear h6 b6
  go_wp2_with fail
  refine HE.out.mono ?_
  clear HE
  rintro e w' ⟨rfl, hR, hB⟩
  have HR := Lib.hid hR
  have HB := Lib.hid (B6.out.trans hB)
  clear hR hB
  go_wp2
  go_end0
  exact ⟨rfl, ⟨_, HR.out⟩, HB.out⟩
set_option maxRecDepth 100000 in
set_option maxHeartbeats 6400000 in
theorem st_panic_die (h : R2 w base r g o f tv vs acts raw s) (hn16 : s.n ≤ 16) (hl256 : (acts i).length ≤ 256) (hi : i < s.n) (hp : p < (acts i).length) (hat : (raw i).at_ = p) (ha : (acts i)[p] = ⟨12, x, y, n⟩) (hgd : (raw i).guard < 0) :
    Calls Try.prog 26 #[.pointer (some ⟨r, 0, none⟩), iv i] w fun e w' => e = .returned (.tuple #[]) ∧ (∃ f', R2 w' base r g o f' tv vs acts (upd raw i { raw i with how := 2, num := n }) ({ s with last := (i : Int) })) ∧ BT base w w' := by
  have hz : (i : Int) < (s.n : Int) := by omega
  have hpz : (p : Int) < ((acts i).length : Int) := by omega
  have hne := h.gne (by omega)
  obtain ⟨cap0, _, c0⟩ := h.tcell (by omega)
  obtain ⟨k0, k1, k2, k3, k4, k5, hl, hf⟩ := h.cells hi
  have hlr := h.lt
  have hfr := h.frz
  have cl := h.rc.cellv (k := 22) (by omega) spec2_last
  obtain ⟨h1, b1⟩ := h.last (i : Int)
  have H1 := Lib.hid h1
  have B1 := Lib.hid b1
  clear h h1 b1 k0 k1 k2 k3 k4 k5
  go_enter Try.func26, Try.ntmps26
  go_wp2
  generalize w.setCell ⟨r, 22, none⟩ (.int .i64 i) = w1 at *
  clear c0 hl hf hlr hfr cl
  obtain ⟨k0, k1, k2, k3, k4, k5, hl, hf⟩ := H1.out.cells (i := i) hi
  obtain ⟨ga, oa, ca, hv, hgs, q0, q1, q2, q3⟩ := H1.out.acell (i := i) hi hp
  rw [hat] at k1
  rw [hv] at k0
  rw [ha] at q0 q1 q2 q3
  dsimp only at q0 q1 q2 q3
  refine Lex.wp_region_text (by kernel_rfl) (by kernel_rfl) ?_
  go_wp2
  refine Lex.sq_done (by rfl) ?_
  obtain ⟨h2, b2⟩ := H1.out.only0 ((Only.refl [] w1).alloc (.cells #[iv 12, iv x, iv y, iv n] 47)).drew
  have HX : Hid (Blk (w1.alloc (.cells #[iv 12, iv x, iv y, iv n] 47)).drew w1.heap.size 47 #[iv 12, iv x, iv y, iv n]) := Lib.hid (Blk.new w1 47 #[iv 12, iv x, iv y, iv n]).drew
  have H2 := Lib.hid h2
  have B2 := Lib.hid (B1.out.trans b2)
  have hxr : w1.heap.size ≠ r := fun e => by have := H1.out.lt; omega
  have hxg : w1.heap.size ≠ g := fun e => by omega
  clear h2 b2 k0 k1 k2 k3 k4 k5 hl hf q0 q1 q2 q3 hgs B1
  generalize (w1.alloc (.cells #[.int .i64 12, .int .i64 x, .int .i64 y, .int .i64 n] 47)).drew = w2 at *
  generalize w1.heap.size = bx at *
  obtain ⟨k0, k1, k2, k3, k4, k5, hl, hf⟩ := H2.out.cells (i := i) hi
  rw [hat] at k1
  have hlr := H2.out.lt
  have hfr := H2.out.frz
  obtain ⟨m1, _, m2⟩ := HX.out.facts
  have HP := Lib.hid (panics_die H2.out (i := i) hi n hgd)
  go_wp2_with fail
  refine HP.out.mono ?_
  clear HP
  rintro e w' ⟨rfl, hR, hB⟩
  have HR := Lib.hid hR
  have HB := Lib.hid (B2.out.trans hB)
  clear hR hB
  go_wp2
  exact bodyPost_ret (results_none rfl _ _ _) rfl ⟨rfl, ⟨_, HR.out⟩, HB.out⟩
set_option maxRecDepth 100000 in
set_option maxHeartbeats 6400000 in
theorem st_panic_caught (h : R2 w base r g o f tv vs acts raw s) (hn16 : s.n ≤ 16) (hl256 : (acts i).length ≤ 256) (hi : i < s.n) (hp : p < (acts i).length) (hat : (raw i).at_ = p) (ha : (acts i)[p] = ⟨12, x, y, n⟩) (hgd : 0 ≤ (raw i).guard) :
    Calls Try.prog 26 #[.pointer (some ⟨r, 0, none⟩), iv i] w fun e w' => e = .returned (.tuple #[]) ∧ (∃ f', R2 w' base r g o f' tv vs acts (upd raw i (RT.ended (acts i).length { raw i with at_ := (raw i).guard, guard := -1 })) (S.setReg { s with last := (i : Int) } 7 (n))) ∧ BT base w w' := by
  have hz : (i : Int) < (s.n : Int) := by omega
  have hpz : (p : Int) < ((acts i).length : Int) := by omega
  have hne := h.gne (by omega)
  obtain ⟨cap0, _, c0⟩ := h.tcell (by omega)
  obtain ⟨k0, k1, k2, k3, k4, k5, hl, hf⟩ := h.cells hi
  have hlr := h.lt
  have hfr := h.frz
  have cl := h.rc.cellv (k := 22) (by omega) spec2_last
  obtain ⟨h1, b1⟩ := h.last (i : Int)
  have H1 := Lib.hid h1
  have B1 := Lib.hid b1
  clear h h1 b1 k0 k1 k2 k3 k4 k5
  go_enter Try.func26, Try.ntmps26
  go_wp2
  generalize w.setCell ⟨r, 22, none⟩ (.int .i64 i) = w1 at *
  clear c0 hl hf hlr hfr cl
  obtain ⟨k0, k1, k2, k3, k4, k5, hl, hf⟩ := H1.out.cells (i := i) hi
  obtain ⟨ga, oa, ca, hv, hgs, q0, q1, q2, q3⟩ := H1.out.acell (i := i) hi hp
  rw [hat] at k1
  rw [hv] at k0
  rw [ha] at q0 q1 q2 q3
  dsimp only at q0 q1 q2 q3
  refine Lex.wp_region_text (by kernel_rfl) (by kernel_rfl) ?_
  go_wp2
  refine Lex.sq_done (by rfl) ?_
  obtain ⟨h2, b2⟩ := H1.out.only0 ((Only.refl [] w1).alloc (.cells #[iv 12, iv x, iv y, iv n] 47)).drew
  have HX : Hid (Blk (w1.alloc (.cells #[iv 12, iv x, iv y, iv n] 47)).drew w1.heap.size 47 #[iv 12, iv x, iv y, iv n]) := Lib.hid (Blk.new w1 47 #[iv 12, iv x, iv y, iv n]).drew
  have H2 := Lib.hid h2
  have B2 := Lib.hid (B1.out.trans b2)
  have hxr : w1.heap.size ≠ r := fun e => by have := H1.out.lt; omega
  have hxg : w1.heap.size ≠ g := fun e => by omega
  clear h2 b2 k0 k1 k2 k3 k4 k5 hl hf q0 q1 q2 q3 hgs B1
  generalize (w1.alloc (.cells #[.int .i64 12, .int .i64 x, .int .i64 y, .int .i64 n] 47)).drew = w2 at *
  generalize w1.heap.size = bx at *
  obtain ⟨k0, k1, k2, k3, k4, k5, hl, hf⟩ := H2.out.cells (i := i) hi
  rw [hat] at k1
  have hlr := H2.out.lt
  have hfr := H2.out.frz
  obtain ⟨m1, _, m2⟩ := HX.out.facts
  have HP := Lib.hid (panics_caught H2.out (i := i) hi n hgd)
  go_wp2_with fail
  refine HP.out.mono ?_
  clear HP
  rintro e w' ⟨rfl, hR, hB⟩
  have HR := Lib.hid hR
  have HB := Lib.hid (B2.out.trans hB)
  clear hR hB
  go_wp2
  exact bodyPost_ret (results_none rfl _ _ _) rfl ⟨rfl, HR.out, HB.out⟩
set_option maxRecDepth 100000 in
set_option maxHeartbeats 6400000 in
theorem st_free_die (h : R2 w base r g o f tv vs acts raw s) (hn16 : s.n ≤ 16) (hl256 : (acts i).length ≤ 256) (hi : i < s.n) (hp : p < (acts i).length) (hat : (raw i).at_ = p) (ha : (acts i)[p] = ⟨2, x, y, n⟩) (hx : x < 4) (hlk : ¬ s.locks x = i) (hgd : (raw i).guard < 0) :
    Calls Try.prog 26 #[.pointer (some ⟨r, 0, none⟩), iv i] w fun e w' => e = .returned (.tuple #[]) ∧ (∃ f', R2 w' base r g o f' tv vs acts (upd raw i { raw i with how := 2, num := -1 }) ({ s with last := (i : Int) })) ∧ BT base w w' := by
  have hxz : (x : Int) < 4 := by omega
  have hiz : (i : Int) < 16 := by omega
  have hz : (i : Int) < (s.n : Int) := by omega
  have hpz : (p : Int) < ((acts i).length : Int) := by omega
  have hne := h.gne (by omega)
  obtain ⟨cap0, _, c0⟩ := h.tcell (by omega)
  obtain ⟨k0, k1, k2, k3, k4, k5, hl, hf⟩ := h.cells hi
  have hlr := h.lt
  have hfr := h.frz
  have cl := h.rc.cellv (k := 22) (by omega) spec2_last
  obtain ⟨h1, b1⟩ := h.last (i : Int)
  have H1 := Lib.hid h1
  have B1 := Lib.hid b1
  clear h h1 b1 k0 k1 k2 k3 k4 k5
  go_enter Try.func26, Try.ntmps26
  go_wp2
  generalize w.setCell ⟨r, 22, none⟩ (.int .i64 i) = w1 at *
  clear c0 hl hf hlr hfr cl
  obtain ⟨k0, k1, k2, k3, k4, k5, hl, hf⟩ := H1.out.cells (i := i) hi
  obtain ⟨ga, oa, ca, hv, hgs, q0, q1, q2, q3⟩ := H1.out.acell (i := i) hi hp
  rw [hat] at k1
  rw [hv] at k0
  rw [ha] at q0 q1 q2 q3
  dsimp only at q0 q1 q2 q3
  refine Lex.wp_region_text (by kernel_rfl) (by kernel_rfl) ?_
  go_wp2
  refine Lex.sq_done (by rfl) ?_
  obtain ⟨h2, b2⟩ := H1.out.only0 ((Only.refl [] w1).alloc (.cells #[iv 2, iv x, iv y, iv n] 47)).drew
  have HX : Hid (Blk (w1.alloc (.cells #[iv 2, iv x, iv y, iv n] 47)).drew w1.heap.size 47 #[iv 2, iv x, iv y, iv n]) := Lib.hid (Blk.new w1 47 #[iv 2, iv x, iv y, iv n]).drew
  have H2 := Lib.hid h2
  have B2 := Lib.hid (B1.out.trans b2)
  have hxr : w1.heap.size ≠ r := fun e => by have := H1.out.lt; omega
  have hxg : w1.heap.size ≠ g := fun e => by omega
  clear h2 b2 k0 k1 k2 k3 k4 k5 hl hf q0 q1 q2 q3 hgs B1
  generalize (w1.alloc (.cells #[.int .i64 2, .int .i64 x, .int .i64 y, .int .i64 n] 47)).drew = w2 at *
  generalize w1.heap.size = bx at *
  obtain ⟨k0, k1, k2, k3, k4, k5, hl, hf⟩ := H2.out.cells (i := i) hi
  rw [hat] at k1
  have hlr := H2.out.lt
  have hfr := H2.out.frz
  obtain ⟨m1, _, m2⟩ := HX.out.facts
  have c1 := H2.out.lcell hx
  change _ = some (iv (s.locks x + 1)) at c1
  have hlz : (s.locks x + 1 == (i : Int) + 1) = false := by rw [beq_eq_false_iff_ne]; omega
  have hln : ¬ s.locks x + 1 = (i : Int) + 1 := by omega
  generalize s.locks x + 1 = lv at c1 hlz hln
  obtain ⟨h2d, b2d⟩ := H2.out.only0 (Only.refl [] w2).drew
  have HXd := Lib.hid HX.out.drew
  have H2d := Lib.hid h2d
  have B2d := Lib.hid (B2.out.trans b2d)
  clear h2d b2d
  go_wp2
  refine Lex.wp_region_text (by kernel_rfl) (by kernel_rfl) ?_
  go_wp2
  refine Lex.sq_done (by rfl) ?_
  clear k0 k1 k2 k3 k4 k5 hl hf hlr hfr m1 m2 H2 B2 HX c1
  generalize w2.drew = w2 at *
  have H2 := H2d
  have B2 := B2d
  have HX := HXd
  clear H2d B2d HXd
  obtain ⟨k0, k1, k2, k3, k4, k5, hl, hf⟩ := H2.out.cells (i := i) hi
  rw [hat] at k1
  have hlr := H2.out.lt
  have hfr := H2.out.frz
  obtain ⟨m1, _, m2⟩ := HX.out.facts
  have HP := Lib.hid (panics_die H2.out (i := i) hi (-1) hgd)
  go_wp2_with fail
  refine HP.out.mono ?_
  clear HP
  rintro e w' ⟨rfl, hR, hB⟩
  have HR := Lib.hid hR
  have HB := Lib.hid (B2.out.trans hB)
  clear hR hB
  go_wp2
  exact bodyPost_ret (results_none rfl _ _ _) rfl ⟨rfl, ⟨_, HR.out⟩, HB.out⟩
set_option maxRecDepth 100000 in
set_option maxHeartbeats 6400000 in
theorem st_free_caught (h : R2 w base r g o f tv vs acts raw s) (hn16 : s.n ≤ 16) (hl256 : (acts i).length ≤ 256) (hi : i < s.n) (hp : p < (acts i).length) (hat : (raw i).at_ = p) (ha : (acts i)[p] = ⟨2, x, y, n⟩) (hx : x < 4) (hlk : ¬ s.locks x = i) (hgd : 0 ≤ (raw i).guard) :
    Calls Try.prog 26 #[.pointer (some ⟨r, 0, none⟩), iv i] w fun e w' => e = .returned (.tuple #[]) ∧ (∃ f', R2 w' base r g o f' tv vs acts (upd raw i (RT.ended (acts i).length { raw i with at_ := (raw i).guard, guard := -1 })) (S.setReg { s with last := (i : Int) } 7 (-1))) ∧ BT base w w' := by
  have hxz : (x : Int) < 4 := by omega
  have hiz : (i : Int) < 16 := by omega
  have hz : (i : Int) < (s.n : Int) := by omega
  have hpz : (p : Int) < ((acts i).length : Int) := by omega
  have hne := h.gne (by omega)
  obtain ⟨cap0, _, c0⟩ := h.tcell (by omega)
  obtain ⟨k0, k1, k2, k3, k4, k5, hl, hf⟩ := h.cells hi
  have hlr := h.lt
  have hfr := h.frz
  have cl := h.rc.cellv (k := 22) (by omega) spec2_last
  obtain ⟨h1, b1⟩ := h.last (i : Int)
  have H1 := Lib.hid h1
  have B1 := Lib.hid b1
  clear h h1 b1 k0 k1 k2 k3 k4 k5
  go_enter Try.func26, Try.ntmps26
  go_wp2
  generalize w.setCell ⟨r, 22, none⟩ (.int .i64 i) = w1 at *
  clear c0 hl hf hlr hfr cl
  obtain ⟨k0, k1, k2, k3, k4, k5, hl, hf⟩ := H1.out.cells (i := i) hi
  obtain ⟨ga, oa, ca, hv, hgs, q0, q1, q2, q3⟩ := H1.out.acell (i := i) hi hp
  rw [hat] at k1
  rw [hv] at k0
  rw [ha] at q0 q1 q2 q3
  dsimp only at q0 q1 q2 q3
  refine Lex.wp_region_text (by kernel_rfl) (by kernel_rfl) ?_
  go_wp2
  refine Lex.sq_done (by rfl) ?_
  obtain ⟨h2, b2⟩ := H1.out.only0 ((Only.refl [] w1).alloc (.cells #[iv 2, iv x, iv y, iv n] 47)).drew
  have HX : Hid (Blk (w1.alloc (.cells #[iv 2, iv x, iv y, iv n] 47)).drew w1.heap.size 47 #[iv 2, iv x, iv y, iv n]) := Lib.hid (Blk.new w1 47 #[iv 2, iv x, iv y, iv n]).drew
  have H2 := Lib.hid h2
  have B2 := Lib.hid (B1.out.trans b2)
  have hxr : w1.heap.size ≠ r := fun e => by have := H1.out.lt; omega
  have hxg : w1.heap.size ≠ g := fun e => by omega
  clear h2 b2 k0 k1 k2 k3 k4 k5 hl hf q0 q1 q2 q3 hgs B1
  generalize (w1.alloc (.cells #[.int .i64 2, .int .i64 x, .int .i64 y, .int .i64 n] 47)).drew = w2 at *
  generalize w1.heap.size = bx at *
  obtain ⟨k0, k1, k2, k3, k4, k5, hl, hf⟩ := H2.out.cells (i := i) hi
  rw [hat] at k1
  have hlr := H2.out.lt
  have hfr := H2.out.frz
  obtain ⟨m1, _, m2⟩ := HX.out.facts
  have c1 := H2.out.lcell hx
  change _ = some (iv (s.locks x + 1)) at c1
  have hlz : (s.locks x + 1 == (i : Int) + 1) = false := by rw [beq_eq_false_iff_ne]; omega
  have hln : ¬ s.locks x + 1 = (i : Int) + 1 := by omega
  generalize s.locks x + 1 = lv at c1 hlz hln
  obtain ⟨h2d, b2d⟩ := H2.out.only0 (Only.refl [] w2).drew
  have HXd := Lib.hid HX.out.drew
  have H2d := Lib.hid h2d
  have B2d := Lib.hid (B2.out.trans b2d)
  clear h2d b2d
  go_wp2
  refine Lex.wp_region_text (by kernel_rfl) (by kernel_rfl) ?_
  go_wp2
  refine Lex.sq_done (by rfl) ?_
  clear k0 k1 k2 k3 k4 k5 hl hf hlr hfr m1 m2 H2 B2 HX c1
  generalize w2.drew = w2 at *
  have H2 := H2d
  have B2 := B2d
  have HX := HXd
  clear H2d B2d HXd
  obtain ⟨k0, k1, k2, k3, k4, k5, hl, hf⟩ := H2.out.cells (i := i) hi
  rw [hat] at k1
  have hlr := H2.out.lt
  have hfr := H2.out.frz
  obtain ⟨m1, _, m2⟩ := HX.out.facts
  have HP := Lib.hid (panics_caught H2.out (i := i) hi (-1) hgd)
  go_wp2_with fail
  refine HP.out.mono ?_
  clear HP
  rintro e w' ⟨rfl, hR, hB⟩
  have HR := Lib.hid hR
  have HB := Lib.hid (B2.out.trans hB)
  clear hR hB
  go_wp2
  exact bodyPost_ret (results_none rfl _ _ _) rfl ⟨rfl, HR.out, HB.out⟩
set_option maxRecDepth 100000 in
set_option maxHeartbeats 6400000 in
theorem st_add (h : R2 w base r g o f tv vs acts raw s) (hn16 : s.n ≤ 16) (hl256 : (acts i).length ≤ 256) (hi : i < s.n) (hp : p < (acts i).length) (hat : (raw i).at_ = p) (ha : (acts i)[p] = ⟨8, x, y, n⟩) (hx : x < 8) :
    Calls Try.prog 26 #[.pointer (some ⟨r, 0, none⟩), iv i] w fun e w' => e = .returned (.tuple #[]) ∧ (∃ f', R2 w' base r g o f' tv vs acts (upd raw i (RT.ended (acts i).length { raw i with at_ := (p : Int) + 1 })) (S.setReg { s with last := (i : Int) } x (wrap64 (s.regs x + n)))) ∧ BT base w w' := by
  have hxz : (x : Int) < 8 := by omega
  have hz : (i : Int) < (s.n : Int) := by omega
  have hpz : (p : Int) < ((acts i).length : Int) := by omega
  have hne := h.gne (by omega)
  obtain ⟨cap0, _, c0⟩ := h.tcell (by omega)
  obtain ⟨k0, k1, k2, k3, k4, k5, hl, hf⟩ := h.cells hi
  have hlr := h.lt
  have hfr := h.frz
  have cl := h.rc.cellv (k := 22) (by omega) spec2_last
  obtain ⟨h1, b1⟩ := h.last (i : Int)
  have H1 := Lib.hid h1
  have B1 := Lib.hid b1
  clear h h1 b1 k0 k1 k2 k3 k4 k5
  go_enter Try.func26, Try.ntmps26
  go_wp2
  generalize w.setCell ⟨r, 22, none⟩ (.int .i64 i) = w1 at *
  clear c0 hl hf hlr hfr cl
  obtain ⟨k0, k1, k2, k3, k4, k5, hl, hf⟩ := H1.out.cells (i := i) hi
  obtain ⟨ga, oa, ca, hv, hgs, q0, q1, q2, q3⟩ := H1.out.acell (i := i) hi hp
  rw [hat] at k1
  rw [hv] at k0
  rw [ha] at q0 q1 q2 q3
  dsimp only at q0 q1 q2 q3
  refine Lex.wp_region_text (by kernel_rfl) (by kernel_rfl) ?_
  go_wp2
  refine Lex.sq_done (by rfl) ?_
  obtain ⟨h2, b2⟩ := H1.out.only0 ((Only.refl [] w1).alloc (.cells #[iv 8, iv x, iv y, iv n] 47)).drew
  have HX : Hid (Blk (w1.alloc (.cells #[iv 8, iv x, iv y, iv n] 47)).drew w1.heap.size 47 #[iv 8, iv x, iv y, iv n]) := Lib.hid (Blk.new w1 47 #[iv 8, iv x, iv y, iv n]).drew
  have H2 := Lib.hid h2
  have B2 := Lib.hid (B1.out.trans b2)
  have hxr : w1.heap.size ≠ r := fun e => by have := H1.out.lt; omega
  have hxg : w1.heap.size ≠ g := fun e => by omega
  clear h2 b2 k0 k1 k2 k3 k4 k5 hl hf q0 q1 q2 q3 hgs B1
  generalize (w1.alloc (.cells #[.int .i64 8, .int .i64 x, .int .i64 y, .int .i64 n] 47)).drew = w2 at *
  generalize w1.heap.size = bx at *
  obtain ⟨k0, k1, k2, k3, k4, k5, hl, hf⟩ := H2.out.cells (i := i) hi
  rw [hat] at k1
  have hlr := H2.out.lt
  have hfr := H2.out.frz
  obtain ⟨m1, _, m2⟩ := HX.out.facts
  have c1 := H2.out.rc.cellv (k := 13 + x) (by omega) (spec2_reg hx)
  change _ = some (iv (s.regs x)) at c1
  obtain ⟨h3, b3⟩ := H2.out.reg hx (wrap64 (s.regs x + n))
  obtain ⟨h4, b4⟩ := h3.only0 (Only.refl [] _).drew
  have H3 := Lib.hid h4
  have B3 := Lib.hid ((B2.out.trans b3).trans b4)
  clear h3 h4 b3 b4
  go_wp2
  refine Lex.wp_region_text (by kernel_rfl) (by kernel_rfl) ?_
  go_wp2
  refine Lex.sq_done (by rfl) ?_
  generalize (w2.setCell ⟨r, 13 + x, none⟩ (.int .i64 (wrap64 (s.regs x + n)))).drew = w3 at *
  clear k0 k1 k2 k3 k4 k5 hl hf hlr hfr m1 m2
  obtain ⟨k0, k1, k2, k3, k4, k5, hl, hf⟩ := H3.out.cells (i := i) hi
  have hlr := H3.out.lt
  have hfr := H3.out.frz
  obtain ⟨h6, b6⟩ := H3.out.raw_ (i := i) hi (j := 1) (u := iv ((p : Int) + 1)) (x := { raw i with at_ := (p : Int) + 1 }) (by omega) (by omega) (fun cs q v hx => hx.at_ ((p : Int) + 1))
  have HE := Lib.hid (ends_r h6 (i := i) hi)
  rw [upd_same, upd_upd] at HE
  have B6 := Lib.hid (B3.out.trans b6)
  clear h6 b6
  go_wp2_with fail
  refine HE.out.mono ?_
  clear HE
  rintro e w' ⟨rfl, hR, hB⟩
  have HR := Lib.hid hR
  have HB := Lib.hid (B6.out.trans hB)
  clear hR hB
  go_wp2
  go_end0
  exact ⟨rfl, ⟨_, HR.out⟩, HB.out⟩
set_option maxRecDepth 100000 in
set_option maxHeartbeats 6400000 in
theorem st_copy (h : R2 w base r g o f tv vs acts raw s) (hn16 : s.n ≤ 16) (hl256 : (acts i).length ≤ 256) (hi : i < s.n) (hp : p < (acts i).length) (hat : (raw i).at_ = p) (ha : (acts i)[p] = ⟨9, x, y, n⟩) (hx : x < 8) (hy : y < 8) :
    Calls Try.prog 26 #[.pointer (some ⟨r, 0, none⟩), iv i] w fun e w' => e = .returned (.tuple #[]) ∧ (∃ f', R2 w' base r g o f' tv vs acts (upd raw i (RT.ended (acts i).length { raw i with at_ := (p : Int) + 1 })) (S.setReg { s with last := (i : Int) } y (s.regs x))) ∧ BT base w w' := by
  have hxz : (x : Int) < 8 := by omega
  have hyz : (y : Int) < 8 := by omega
  have hz : (i : Int) < (s.n : Int) := by omega
  have hpz : (p : Int) < ((acts i).length : Int) := by omega
  have hne := h.gne (by omega)
  obtain ⟨cap0, _, c0⟩ := h.tcell (by omega)
  obtain ⟨k0, k1, k2, k3, k4, k5, hl, hf⟩ := h.cells hi
  have hlr := h.lt
  have hfr := h.frz
  have cl := h.rc.cellv (k := 22) (by omega) spec2_last
  obtain ⟨h1, b1⟩ := h.last (i : Int)
  have H1 := Lib.hid h1
  have B1 := Lib.hid b1
  clear h h1 b1 k0 k1 k2 k3 k4 k5
  go_enter Try.func26, Try.ntmps26
  go_wp2
  generalize w.setCell ⟨r, 22, none⟩ (.int .i64 i) = w1 at *
  clear c0 hl hf hlr hfr cl
  obtain ⟨k0, k1, k2, k3, k4, k5, hl, hf⟩ := H1.out.cells (i := i) hi
  obtain ⟨ga, oa, ca, hv, hgs, q0, q1, q2, q3⟩ := H1.out.acell (i := i) hi hp
  rw [hat] at k1
  rw [hv] at k0
  rw [ha] at q0 q1 q2 q3
  dsimp only at q0 q1 q2 q3
  refine Lex.wp_region_text (by kernel_rfl) (by kernel_rfl) ?_
  go_wp2
  refine Lex.sq_done (by rfl) ?_
  obtain ⟨h2, b2⟩ := H1.out.only0 ((Only.refl [] w1).alloc (.cells #[iv 9, iv x, iv y, iv n] 47)).drew
  have HX : Hid (Blk (w1.alloc (.cells #[iv 9, iv x, iv y, iv n] 47)).drew w1.heap.size 47 #[iv 9, iv x, iv y, iv n]) := Lib.hid (Blk.new w1 47 #[iv 9, iv x, iv y, iv n]).drew
  have H2 := Lib.hid h2
  have B2 := Lib.hid (B1.out.trans b2)
  have hxr : w1.heap.size ≠ r := fun e => by have := H1.out.lt; omega
  have hxg : w1.heap.size ≠ g := fun e => by omega
  clear h2 b2 k0 k1 k2 k3 k4 k5 hl hf q0 q1 q2 q3 hgs B1
  generalize (w1.alloc (.cells #[.int .i64 9, .int .i64 x, .int .i64 y, .int .i64 n] 47)).drew = w2 at *
  generalize w1.heap.size = bx at *
  obtain ⟨k0, k1, k2, k3, k4, k5, hl, hf⟩ := H2.out.cells (i := i) hi
  rw [hat] at k1
  have hlr := H2.out.lt
  have hfr := H2.out.frz
  obtain ⟨m1, _, m2⟩ := HX.out.facts
  have c1 := H2.out.rc.cellv (k := 13 + x) (by omega) (spec2_reg hx)
  change _ = some (iv (s.regs x)) at c1
  have c2 := H2.out.rc.cellv (k := 13 + y) (by omega) (spec2_reg hy)
  change _ = some (iv (s.regs y)) at c2
  obtain ⟨h3, b3⟩ := H2.out.reg hy (s.regs x)
  obtain ⟨h4, b4⟩ := h3.only0 (Only.refl [] _).drew
  have H3 := Lib.hid h4
  have B3 := Lib.hid ((B2.out.trans b3).trans b4)
  clear h3 h4 b3 b4
  go_wp2
  refine Lex.wp_region_text (by kernel_rfl) (by kernel_rfl) ?_
  go_wp2
  refine Lex.sq_done (by rfl) ?_
  generalize (w2.setCell ⟨r, 13 + y, none⟩ (.int .i64 (s.regs x))).drew = w3 at *
  clear k0 k1 k2 k3 k4 k5 hl hf hlr hfr m1 m2
  obtain ⟨k0, k1, k2, k3, k4, k5, hl, hf⟩ := H3.out.cells (i := i) hi
  have hlr := H3.out.lt
  have hfr := H3.out.frz
  obtain ⟨h6, b6⟩ := H3.out.raw_ (i := i) hi (j := 1) (u := iv ((p : Int) + 1)) (x := { raw i with at_ := (p : Int) + 1 }) (by omega) (by omega) (fun cs q v hx => hx.at_ ((p : Int) + 1))
  have HE := Lib.hid (ends_r h6 (i := i) hi)
  rw [upd_same, upd_upd] at HE
  have B6 := Lib.hid (B3.out.trans b6)
  clear h6 b6
  go_wp2_with fail
  refine HE.out.mono ?_
  clear HE
  rintro e w' ⟨rfl, hR, hB⟩
  have HR := Lib.hid hR
  have HB := Lib.hid (B6.out.trans hB)
  clear hR hB
  go_wp2
  go_end0
  exact ⟨rfl, ⟨_, HR.out⟩, HB.out⟩
set_option maxRecDepth 100000 in
set_option maxHeartbeats 6400000 in
theorem st_guard (h : R2 w base r g o f tv vs acts raw s) (hn16 : s.n ≤ 16) (hl256 : (acts i).length ≤ 256) (hi : i < s.n) (hp : p < (acts i).length) (hat : (raw i).at_ = p) (ha : (acts i)[p] = ⟨13, x, y, n⟩) :
    Calls Try.prog 26 #[.pointer (some ⟨r, 0, none⟩), iv i] w fun e w' => e = .returned (.tuple #[]) ∧ (∃ f', R2 w' base r g o f' tv vs acts (upd raw i (RT.ended (acts i).length { raw i with guard := n, at_ := (p : Int) + 1 })) ({ s with last := (i : Int) })) ∧ BT base w w' := by
  have hz : (i : Int) < (s.n : Int) := by omega
  have hpz : (p : Int) < ((acts i).length : Int) := by omega
  have hne := h.gne (by omega)
  obtain ⟨cap0, _, c0⟩ := h.tcell (by omega)
  obtain ⟨k0, k1, k2, k3, k4, k5, hl, hf⟩ := h.cells hi
  have hlr := h.lt
  have hfr := h.frz
  have cl := h.rc.cellv (k := 22) (by omega) spec2_last
  obtain ⟨h1, b1⟩ := h.last (i : Int)
  have H1 := Lib.hid h1
  have B1 := Lib.hid b1
  clear h h1 b1 k0 k1 k2 k3 k4 k5
  go_enter Try.func26, Try.ntmps26
  go_wp2
  generalize w.setCell ⟨r, 22, none⟩ (.int .i64 i) = w1 at *
  clear c0 hl hf hlr hfr cl
  obtain ⟨k0, k1, k2, k3, k4, k5, hl, hf⟩ := H1.out.cells (i := i) hi
  obtain ⟨ga, oa, ca, hv, hgs, q0, q1, q2, q3⟩ := H1.out.acell (i := i) hi hp
  rw [hat] at k1
  rw [hv] at k0
  rw [ha] at q0 q1 q2 q3
  dsimp only at q0 q1 q2 q3
  refine Lex.wp_region_text (by kernel_rfl) (by kernel_rfl) ?_
  go_wp2
  refine Lex.sq_done (by rfl) ?_
  obtain ⟨h2, b2⟩ := H1.out.only0 ((Only.refl [] w1).alloc (.cells #[iv 13, iv x, iv y, iv n] 47)).drew
  have HX : Hid (Blk (w1.alloc (.cells #[iv 13, iv x, iv y, iv n] 47)).drew w1.heap.size 47 #[iv 13, iv x, iv y, iv n]) := Lib.hid (Blk.new w1 47 #[iv 13, iv x, iv y, iv n]).drew
  have H2 := Lib.hid h2
  have B2 := Lib.hid (B1.out.trans b2)
  have hxr : w1.heap.size ≠ r := fun e => by have := H1.out.lt; omega
  have hxg : w1.heap.size ≠ g := fun e => by omega
  clear h2 b2 k0 k1 k2 k3 k4 k5 hl hf q0 q1 q2 q3 hgs B1
  generalize (w1.alloc (.cells #[.int .i64 13, .int .i64 x, .int .i64 y, .int .i64 n] 47)).drew = w2 at *
  generalize w1.heap.size = bx at *
  obtain ⟨k0, k1, k2, k3, k4, k5, hl, hf⟩ := H2.out.cells (i := i) hi
  rw [hat] at k1
  have hlr := H2.out.lt
  have hfr := H2.out.frz
  obtain ⟨m1, _, m2⟩ := HX.out.facts
  obtain ⟨h3, b3⟩ := H2.out.raw_ (i := i) hi (j := 3) (u := iv n) (x := { raw i with guard := n }) (by omega) (by omega) (fun cs q v hx => hx.guard_ n)
  obtain ⟨h6, b6⟩ := h3.raw_ (i := i) hi (j := 1) (u := iv ((p : Int) + 1)) (x := { raw i with guard := n, at_ := (p : Int) + 1 }) (by omega) (by omega) (fun cs q v hx => by rw [upd_same] at hx; exact hx.at_ ((p : Int) + 1))
  have HE := Lib.hid (ends_r h6 (i := i) hi)
  rw [upd_same, upd_upd, upd_upd] at HE
  have B6 := Lib.hid ((B2.out.trans b3).trans b6)
  clear h3 b3 h6 b6
  go_wp2_with fail
  refine HE.out.mono ?_
  clear HE
  rintro e w' ⟨rfl, hR, hB⟩
  have HR := Lib.hid hR
  have HB := Lib.hid (B6.out.trans hB)
  clear hR hB
  go_wp2
  go_end0
  exact ⟨rfl, ⟨_, HR.out⟩, HB.out⟩
set_option maxRecDepth 100000 in
set_option maxHeartbeats 6400000 in
theorem st_skip_go (h : R2 w base r g o f tv vs acts raw s) (hn16 : s.n ≤ 16) (hl256 : (acts i).length ≤ 256) (hi : i < s.n) (hp : p < (acts i).length) (hat : (raw i).at_ = p) (ha : (acts i)[p] = ⟨10, x, y, n⟩) (hx : x < 8) (hn0 : 0 ≤ n) (hn255 : n ≤ 255) (hz0 : ¬ s.regs x = 0) :
    Calls Try.prog 26 #[.pointer (some ⟨r, 0, none⟩), iv i] w fun e w' => e = .returned (.tuple #[]) ∧ (∃ f', R2 w' base r g o f' tv vs acts (upd raw i (RT.ended (acts i).length { raw i with at_ := (p : Int) + 1 })) ({ s with last := (i : Int) })) ∧ BT base w w' := by
  have hxz : (x : Int) < 8 := by omega
  have hz : (i : Int) < (s.n : Int) := by omega
  have hpz : (p : Int) < ((acts i).length : Int) := by omega
  have hne := h.gne (by omega)
  obtain ⟨cap0, _, c0⟩ := h.tcell (by omega)
  obtain ⟨k0, k1, k2, k3, k4, k5, hl, hf⟩ := h.cells hi
  have hlr := h.lt
  have hfr := h.frz
  have cl := h.rc.cellv (k := 22) (by omega) spec2_last
  obtain ⟨h1, b1⟩ := h.last (i : Int)
  have H1 := Lib.hid h1
  have B1 := Lib.hid b1
  clear h h1 b1 k0 k1 k2 k3 k4 k5
  go_enter Try.func26, Try.ntmps26
  go_wp2
  generalize w.setCell ⟨r, 22, none⟩ (.int .i64 i) = w1 at *
  clear c0 hl hf hlr hfr cl
  obtain ⟨k0, k1, k2, k3, k4, k5, hl, hf⟩ := H1.out.cells (i := i) hi
  obtain ⟨ga, oa, ca, hv, hgs, q0, q1, q2, q3⟩ := H1.out.acell (i := i) hi hp
  rw [hat] at k1
  rw [hv] at k0
  rw [ha] at q0 q1 q2 q3
  dsimp only at q0 q1 q2 q3
  refine Lex.wp_region_text (by kernel_rfl) (by kernel_rfl) ?_
  go_wp2
  refine Lex.sq_done (by rfl) ?_
  obtain ⟨h2, b2⟩ := H1.out.only0 ((Only.refl [] w1).alloc (.cells #[iv 10, iv x, iv y, iv n] 47)).drew
  have HX : Hid (Blk (w1.alloc (.cells #[iv 10, iv x, iv y, iv n] 47)).drew w1.heap.size 47 #[iv 10, iv x, iv y, iv n]) := Lib.hid (Blk.new w1 47 #[iv 10, iv x, iv y, iv n]).drew
  have H2 := Lib.hid h2
  have B2 := Lib.hid (B1.out.trans b2)
  have hxr : w1.heap.size ≠ r := fun e => by have := H1.out.lt; omega
  have hxg : w1.heap.size ≠ g := fun e => by omega
  clear h2 b2 k0 k1 k2 k3 k4 k5 hl hf q0 q1 q2 q3 hgs B1
  generalize (w1.alloc (.cells #[.int .i64 10, .int .i64 x, .int .i64 y, .int .i64 n] 47)).drew = w2 at *
  generalize w1.heap.size = bx at *
  obtain ⟨k0, k1, k2, k3, k4, k5, hl, hf⟩ := H2.out.cells (i := i) hi
  rw [hat] at k1
  have hlr := H2.out.lt
  have hfr := H2.out.frz
  obtain ⟨m1, _, m2⟩ := HX.out.facts
  have c1 := H2.out.rc.cellv (k := 13 + x) (by omega) (spec2_reg hx)
  change _ = some (iv (s.regs x)) at c1
  have hrz : (s.regs x == 0) = false := by simpa using hz0
  obtain ⟨h2d, b2d⟩ := H2.out.only0 (Only.refl [] w2).drew
  have HXd := Lib.hid HX.out.drew
  have H2d := Lib.hid h2d
  have B2d := Lib.hid (B2.out.trans b2d)
  clear h2d b2d
  go_wp2
  refine Lex.wp_region_text (by kernel_rfl) (by kernel_rfl) ?_
  go_wp2
  refine Lex.sq_done (by rfl) ?_
  clear k0 k1 k2 k3 k4 k5 hl hf hlr hfr m1 m2 H2 B2 HX c1
  generalize w2.drew = w2 at *
  have H2 := H2d
  have B2 := B2d
  have HX := HXd
  clear H2d B2d HXd
  obtain ⟨k0, k1, k2, k3, k4, k5, hl, hf⟩ := H2.out.cells (i := i) hi
  rw [hat] at k1
  have hlr := H2.out.lt
  have hfr := H2.out.frz
  obtain ⟨m1, _, m2⟩ := HX.out.facts
  obtain ⟨h6, b6⟩ := H2.out.raw_ (i := i) hi (j := 1) (u := iv ((p : Int) + 1)) (x := { raw i with at_ := (p : Int) + 1 }) (by omega) (by omega) (fun cs q v hx => hx.at_ ((p : Int) + 1))
  have HE := Lib.hid (ends_r h6 (i := i) hi)
  rw [upd_same, upd_upd] at HE
  have B6 := Lib.hid (B2.out.trans b6)
  clear h6 b6
  go_wp2_with fail
  refine HE.out.mono ?_
  clear HE
  rintro e w' ⟨rfl, hR, hB⟩
  have HR := Lib.hid hR
  have HB := Lib.hid (B6.out.trans hB)
  clear hR hB
  go_wp2
  go_end0
  exact ⟨rfl, ⟨_, HR.out⟩, HB.out⟩
set_option maxRecDepth 100000 in
set_option maxHeartbeats 6400000 in
theorem st_skip (h : R2 w base r g o f tv vs acts raw s) (hn16 : s.n ≤ 16) (hl256 : (acts i).length ≤ 256) (hi : i < s.n) (hp : p < (acts i).length) (hat : (raw i).at_ = p) (ha : (acts i)[p] = ⟨10, x, y, n⟩) (hx : x < 8) (hn0 : 0 ≤ n) (hn255 : n ≤ 255) (hz0 : s.regs x = 0) :
    Calls Try.prog 26 #[.pointer (some ⟨r, 0, none⟩), iv i] w fun e w' => e = .returned (.tuple #[]) ∧ (∃ f', R2 w' base r g o f' tv vs acts (upd raw i (RT.ended (acts i).length { raw i with at_ := (p : Int) + 1 + n })) ({ s with last := (i : Int) })) ∧ BT base w w' := by
  have hxz : (x : Int) < 8 := by omega
  have hz : (i : Int) < (s.n : Int) := by omega
  have hpz : (p : Int) < ((acts i).length : Int) := by omega
  have hne := h.gne (by omega)
  obtain ⟨cap0, _, c0⟩ := h.tcell (by omega)
  obtain ⟨k0, k1, k2, k3, k4, k5, hl, hf⟩ := h.cells hi
  have hlr := h.lt
  have hfr := h.frz
  have cl := h.rc.cellv (k := 22) (by omega) spec2_last
  obtain ⟨h1, b1⟩ := h.last (i : Int)
  have H1 := Lib.hid h1
  have B1 := Lib.hid b1
  clear h h1 b1 k0 k1 k2 k3 k4 k5
  go_enter Try.func26, Try.ntmps26
  go_wp2
  generalize w.setCell ⟨r, 22, none⟩ (.int .i64 i) = w1 at *
  clear c0 hl hf hlr hfr cl
  obtain ⟨k0, k1, k2, k3, k4, k5, hl, hf⟩ := H1.out.cells (i := i) hi
  obtain ⟨ga, oa, ca, hv, hgs, q0, q1, q2, q3⟩ := H1.out.acell (i := i) hi hp
  rw [hat] at k1
  rw [hv] at k0
  rw [ha] at q0 q1 q2 q3
  dsimp only at q0 q1 q2 q3
  refine Lex.wp_region_text (by kernel_rfl) (by kernel_rfl) ?_
  go_wp2
  refine Lex.sq_done (by rfl) ?_
  obtain ⟨h2, b2⟩ := H1.out.only0 ((Only.refl [] w1).alloc (.cells #[iv 10, iv x, iv y, iv n] 47)).drew
  have HX : Hid (Blk (w1.alloc (.cells #[iv 10, iv x, iv y, iv n] 47)).drew w1.heap.size 47 #[iv 10, iv x, iv y, iv n]) := Lib.hid (Blk.new w1 47 #[iv 10, iv x, iv y, iv n]).drew
  have H2 := Lib.hid h2
  have B2 := Lib.hid (B1.out.trans b2)
  have hxr : w1.heap.size ≠ r := fun e => by have := H1.out.lt; omega
  have hxg : w1.heap.size ≠ g := fun e => by omega
  clear h2 b2 k0 k1 k2 k3 k4 k5 hl hf q0 q1 q2 q3 hgs B1
  generalize (w1.alloc (.cells #[.int .i64 10, .int .i64 x, .int .i64 y, .int .i64 n] 47)).drew = w2 at *
  generalize w1.heap.size = bx at *
  obtain ⟨k0, k1, k2, k3, k4, k5, hl, hf⟩ := H2.out.cells (i := i) hi
  rw [hat] at k1
  have hlr := H2.out.lt
  have hfr := H2.out.frz
  obtain ⟨m1, _, m2⟩ := HX.out.facts
  have c1 := H2.out.rc.cellv (k := 13 + x) (by omega) (spec2_reg hx)
  change _ = some (iv (s.regs x)) at c1
  rw [hz0] at c1
  obtain ⟨h2d, b2d⟩ := H2.out.only0 (Only.refl [] w2).drew
  have HXd := Lib.hid HX.out.drew
  have H2d := Lib.hid h2d
  have B2d := Lib.hid (B2.out.trans b2d)
  clear h2d b2d
  go_wp2
  refine Lex.wp_region_text (by kernel_rfl) (by kernel_rfl) ?_
  go_wp2
  refine Lex.sq_done (by rfl) ?_
  clear k0 k1 k2 k3 k4 k5 hl hf hlr hfr m1 m2 H2 B2 HX c1
  generalize w2.drew = w2 at *
  have H2 := H2d
  have B2 := B2d
  have HX := HXd
  clear H2d B2d HXd
  obtain ⟨k0, k1, k2, k3, k4, k5, hl, hf⟩ := H2.out.cells (i := i) hi
  rw [hat] at k1
  have hlr := H2.out.lt
  have hfr := H2.out.frz
  obtain ⟨m1, _, m2⟩ := HX.out.facts
  obtain ⟨h6, b6⟩ := H2.out.raw_ (i := i) hi (j := 1) (u := iv ((p : Int) + 1 + n)) (x := { raw i with at_ := (p : Int) + 1 + n }) (by omega) (by omega) (fun cs q v hx => hx.at_ ((p : Int) + 1 + n))
  have HE := Lib.hid (ends_r h6 (i := i) hi)
  rw [upd_same, upd_upd] at HE
  have B6 := Lib.hid (B2.out.trans b6)
  clear h6 b6
  go_wp2_with fail
  refine HE.out.mono ?_
  clear HE
  rintro e w' ⟨rfl, hR, hB⟩
  have HR := Lib.hid hR
  have HB := Lib.hid (B6.out.trans hB)
  clear hR hB
  go_wp2
  go_end0
  exact ⟨rfl, ⟨_, HR.out⟩, HB.out⟩
end
end Go.Proofs.Ytompelilflckkaa
