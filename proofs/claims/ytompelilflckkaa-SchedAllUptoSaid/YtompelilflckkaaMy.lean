/-
  The document's own run: a step: a take.
-/
import Derived.Test.YtompelilflckkaaMx
set_option linter.unusedSimpArgs false
set_option linter.unusedVariables false
namespace Go.Proofs.Ytompelilflckkaa
open Go.RowKit Go.Fl

section
variable {w : World} {base r g o : Nat} {f : Nat → Value} {tv : Value} {vs : Nat → Value} {acts : Nat → List A} {raw : Nat → RT} {s : S} {i p x y : Nat} {n : Int}
set_option maxRecDepth 100000 in
set_option maxHeartbeats 32000000 in
theorem st_take (h : R2 w base r g o f tv vs acts raw s) (hn16 : s.n ≤ 16) (hl256 : (acts i).length ≤ 256) (hi : i < s.n) (hp : p < (acts i).length) (hat : (raw i).at_ = p) (ha : (acts i)[p] = ⟨7, x, y, n⟩) (hx : x < 4) (hy : y < 8) {v0 : Int} {q : List Int} (hq : s.queues x = v0 :: q) (hcl : q.length ≤ 65536) :
    Calls Try.prog 26 #[.pointer (some ⟨r, 0, none⟩), iv i] w fun e w' => e = .returned (.tuple #[]) ∧ (∃ f', R2 w' base r g o f' tv vs acts (upd raw i (RT.ended (acts i).length { raw i with at_ := (p : Int) + 1 })) ((S.setReg { s with last := (i : Int) } y v0).setQueue x q)) ∧ BT base w w' := by
  obtain ⟨j2, si, sz0, sz1, sz2⟩ := info_parts info2
  have hxz : (x : Int) < 4 := by omega
  have hyz : (y : Int) < 8 := by omega
  have hz : (i : Int) < (s.n : Int) := by omega
  have hpz : (p : Int) < ((acts i).length : Int) := by omega
  have hne := h.gne (by omega)
  obtain ⟨cap0, _, c0⟩ := h.tcell (by omega)
  obtain ⟨k0, k1, k2, k3, k4, k5, hl, hf⟩ := h.cells hi
  have hlr := h.lt
  have hfr := h.frz
  have cl := h.rc.cellv (k := 22) (by omega) spec2_last
  obtain ⟨h1, b1⟩ := h.last (i : Int)
  have H1 := Lib.hid h1
  have B1 := Lib.hid b1
  clear h h1 b1 k0 k1 k2 k3 k4 k5
  go_enter Try.func26, Try.ntmps26
  go_wp2
  generalize w.setCell ⟨r, 22, none⟩ (.int .i64 i) = w1 at *
  clear c0 hl hf hlr hfr cl
  obtain ⟨k0, k1, k2, k3, k4, k5, hl, hf⟩ := H1.out.cells (i := i) hi
  obtain ⟨ga, oa, ca, hv, hgs, q0, q1, q2, q3⟩ := H1.out.acell (i := i) hi hp
  rw [hat] at k1
  rw [hv] at k0
  rw [ha] at q0 q1 q2 q3
  dsimp only at q0 q1 q2 q3
  refine Lex.wp_region_text (by kernel_rfl) (by kernel_rfl) ?_
  go_wp2
  refine Lex.sq_done (by rfl) ?_
  obtain ⟨h2, b2⟩ := H1.out.only0 ((Only.refl [] w1).alloc (.cells #[iv 7, iv x, iv y, iv n] 47)).drew
  have HX : Hid (Blk (w1.alloc (.cells #[iv 7, iv x, iv y, iv n] 47)).drew w1.heap.size 47 #[iv 7, iv x, iv y, iv n]) := Lib.hid (Blk.new w1 47 #[iv 7, iv x, iv y, iv n]).drew
  have H2 := Lib.hid h2
  have B2 := Lib.hid (B1.out.trans b2)
  have hxr : w1.heap.size ≠ r := fun e => by have := H1.out.lt; omega
  have hxg : w1.heap.size ≠ g := fun e => by omega
  clear h2 b2 k0 k1 k2 k3 k4 k5 hl hf q0 q1 q2 q3 hgs B1
  generalize (w1.alloc (.cells #[.int .i64 7, .int .i64 x, .int .i64 y, .int .i64 n] 47)).drew = w2 at *
  generalize w1.heap.size = bx at *
  obtain ⟨k0, k1, k2, k3, k4, k5, hl, hf⟩ := H2.out.cells (i := i) hi
  rw [hat] at k1
  have hlr := H2.out.lt
  have hfr := H2.out.frz
  obtain ⟨m1, _, m2⟩ := HX.out.facts
  obtain ⟨ca, cc2, hcv, cc, hS⟩ := H2.out.qsl hx
  change _ = Value.slice ca (s.queues x).length cc2 at hcv
  change _ = some (Value.slice ca (s.queues x).length cc2) at cc
  change Sl _ 2 1 (.slice ca (s.queues x).length cc2) (s.queues x).length (ints (s.queues x)) at hS
  rw [hq, List.length_cons] at hcv cc hS
  obtain ⟨gl, ol, cl, hv0, hgl, hcl2, _, hcc, _⟩ := hS.form (by omega)
  injection hv0 with e1 _ e3
  subst e1
  subst e3
  have cx : w2.cell? ⟨gl, ol, none⟩ = some (iv v0) := (hcc 0 (by omega)).trans rfl
  have c2 := H2.out.rc.cellv (k := 13 + y) (by omega) (spec2_reg hy)
  obtain ⟨h3, b3⟩ := H2.out.reg hy v0
  obtain ⟨h4, b4⟩ := h3.only0 (Only.refl [] _).drew
  have HX3 := Lib.hid (HX.out.far (p := ⟨r, 13 + y, none⟩) hxr (iv v0)).drew
  have hlz : (0 : Int) < (q.length : Int) + 1 := by omega
  obtain ⟨f3, hf3⟩ : ∃ f3, f3 = upd (upd f 22 (iv i)) (13 + y) (iv v0) := ⟨_, rfl⟩
  have HCV : Hid (upd (upd f 22 (iv i)) (13 + y) (iv v0) (9 + x) = .slice (some ⟨gl, ol, none⟩) (q.length + 1) cc2) := Lib.hid (by rw [upd_ne _ _ _ _ (by omega)]; exact hcv)
  rw [← hf3] at h3 h4 HCV
  have H3 := Lib.hid h4
  have B3 := Lib.hid ((B2.out.trans b3).trans b4)
  clear h3 h4 b3 b4 hcc hS hcv hf3
  go_wp2
  refine Lex.wp_region_text (by kernel_rfl) (by kernel_rfl) ?_
  go_wp2
  refine Lex.sq_done (by rfl) ?_
  generalize (w2.setCell ⟨r, 13 + y, none⟩ (.int .i64 v0)).drew = w3 at *
  clear k0 k1 k2 k3 k4 k5 hl hf hlr hfr m1 m2 cc cx c2 hgl
  have hlr := H3.out.lt
  have hfr := H3.out.frz
  obtain ⟨m1, _, m2⟩ := HX3.out.facts
  have cc : w3.cell? ⟨r, 9 + x, none⟩ = some (.slice (some ⟨gl, ol, none⟩) (q.length + 1) cc2) := (H3.out.rc.cell (k := 9 + x) (by omega)).trans (congrArg some HCV.out)
  have hS3 : Sl w3 2 1 (.slice (some ⟨gl, ol, none⟩) (q.length + 1) cc2) (q.length + 1) (ints (v0 :: q)) := by
    have := H3.out.rc.row (k := 9 + x) (by omega) (spec2_queue hx)
    change Sl _ 2 1 _ (s.queues x).length (ints (s.queues x)) at this
    rw [hq, List.length_cons, HCV.out] at this
    exact this
  have HC := hS3.cut (k := 1) (by omega)
  rw [Nat.add_sub_cancel, show (ints (v0 :: q)).drop (1 * 1) = ints q from rfl] at HC
  have hcl1 : (1 : Int) ≤ (q.length : Int) + 1 := by omega
  clear hS3 hq
  by_cases hcc1 : cc2 = 1
  · rw [if_pos hcc1] at HC
    subst hcc1
    obtain rfl : q = [] := List.length_eq_zero_iff.1 (by omega)
    have HCD : Hid (Sl w3.drew 2 1 (.slice (some ⟨gl, ol, none⟩) 0 0) 0 (ints [])) := Lib.hid HC.drew
    clear HC
    go_wp2
    go_region_law (first
        | (refine step_append_sls rfl (.const (.slice none 0 0)) (.tmp 141) 29 rfl 2 j2 _ 1 8 Try.underlying29 si sz0 sz1 sz2 rfl (by decide) rfl (Sl.nil _ _ _) rfl HCD.out (by intro u hu; unfold ints at hu; obtain ⟨y, _, rfl⟩ := List.mem_map.1 hu; rfl) (by unfold maxLen; omega) (by omega) ?_
           intro v4 w4 hS4 hg4 hat4
           have hg4 : w3.drew.grownBy w4 none := hg4
           have hS4 : Sl w4 2 1 v4 (([] : List Int)).length (ints (([] : List Int))) := by
             first
               | exact hS4
               | (have := hS4; rw [Nat.zero_add, List.nil_append] at this; exact this)
           obtain ⟨va, vc, hv4, _, _⟩ := hS4.shape
           subst hv4
           have hgb4 : w3.drew.grownBy w4 (f3 (9 + x)).ownBlock := ⟨hg4.os, hg4.tape, hg4.output, hg4.size, fun k hk _ => hg4.block k hk (by simp)⟩
           have HR4 := Lib.hid ((H3.out.only0 (Only.refl [] _).drew).1.queue (k := x) hx (l := ([] : List Int)) hS4 hgb4 (fun g hg => .inr (by
             rcases hat4 with e | e
             · rw [e] at hg; cases hg
             · rw [e] at hg; injection hg with hg; rw [← hg]; exact Nat.le_refl _)))
           have HK4 : w4.cell? ⟨bx, 1, none⟩ = some (iv x) := (Blk.grown HX3.out.drew hg4 (by simp)).cell 1
           have hfr4 := HR4.out.2.2.frozen
           have hlr4 := HR4.out.2.2.lt
           have hcc4 := (HR4.out.2.2.cell (9 + x)).trans (cellsN_get (by omega))
           clear hS4 hg4 hgb4 hat4))
    all_goals
      have H5 := Lib.hid HR4.out.1
      have B5 := Lib.hid ((B3.out.trans (H3.out.only0 (Only.refl [] _).drew).2).trans HR4.out.2.1)
      clear HK4 hfr4 hlr4 HR4 hcc4 m1 m2 cc HCD HCV H3 B3
      generalize w4.setCell ⟨r, 9 + x, none⟩ (.slice va 0 vc) = w5 at *
      clear hlr hfr
      obtain ⟨k0, k1, k2, k3, k4, k5, hl, hf⟩ := H5.out.cells (i := i) hi
      have hlr := H5.out.lt
      have hfr := H5.out.frz
      obtain ⟨h6, b6⟩ := H5.out.raw_ (i := i) hi (j := 1) (u := iv ((p : Int) + 1)) (x := { raw i with at_ := (p : Int) + 1 }) (by omega) (by omega) (fun cs q v hx => hx.at_ ((p : Int) + 1))
      have HE := Lib.hid (ends_r h6 (i := i) hi)
      rw [upd_same, upd_upd] at HE
      have B6 := Lib.hid (B5.out.trans b6)
      clear h6 b6
      go_wp2_with fail
      refine HE.out.mono ?_
      clear HE
      rintro e w' ⟨rfl, hR, hB⟩
      have HR := Lib.hid hR
      have HB := Lib.hid (B6.out.trans hB)
      clear hR hB
      go_wp2
      go_end0
      exact ⟨rfl, ⟨_, HR.out⟩, HB.out⟩
  · rw [if_neg hcc1] at HC
    have HCD : Hid (Sl w3.drew 2 1 (.slice (some ⟨gl, ol + 1, none⟩) q.length (cc2 - 1)) q.length (ints q)) := Lib.hid HC.drew
    have hcz1 : ¬ cc2 - 1 = 0 := by omega
    clear HC
    go_wp2
    go_region_law (first
        | (refine step_append_sls rfl (.const (.slice none 0 0)) (.tmp 141) 29 rfl 2 j2 _ 1 8 Try.underlying29 si sz0 sz1 sz2 rfl (by decide) rfl (Sl.nil _ _ _) rfl HCD.out (by intro u hu; unfold ints at hu; obtain ⟨y, _, rfl⟩ := List.mem_map.1 hu; rfl) (by unfold maxLen; omega) (by omega) ?_
           intro v4 w4 hS4 hg4 hat4
           have hg4 : w3.drew.grownBy w4 none := hg4
           have hS4 : Sl w4 2 1 v4 (q).length (ints (q)) := by
             first
               | exact hS4
               | (have := hS4; rw [Nat.zero_add, List.nil_append] at this; exact this)
           obtain ⟨va, vc, hv4, _, _⟩ := hS4.shape
           subst hv4
           have hgb4 : w3.drew.grownBy w4 (f3 (9 + x)).ownBlock := ⟨hg4.os, hg4.tape, hg4.output, hg4.size, fun k hk _ => hg4.block k hk (by simp)⟩
           have HR4 := Lib.hid ((H3.out.only0 (Only.refl [] _).drew).1.queue (k := x) hx (l := q) hS4 hgb4 (fun g hg => .inr (by
             rcases hat4 with e | e
             · rw [e] at hg; cases hg
             · rw [e] at hg; injection hg with hg; rw [← hg]; exact Nat.le_refl _)))
           have HK4 : w4.cell? ⟨bx, 1, none⟩ = some (iv x) := (Blk.grown HX3.out.drew hg4 (by simp)).cell 1
           have hfr4 := HR4.out.2.2.frozen
           have hlr4 := HR4.out.2.2.lt
           have hcc4 := (HR4.out.2.2.cell (9 + x)).trans (cellsN_get (by omega))
           clear hS4 hg4 hgb4 hat4))
    all_goals
      have H5 := Lib.hid HR4.out.1
      have B5 := Lib.hid ((B3.out.trans (H3.out.only0 (Only.refl [] _).drew).2).trans HR4.out.2.1)
      clear HK4 hfr4 hlr4 HR4 hcc4 m1 m2 cc HCD HCV H3 B3
      generalize w4.setCell ⟨r, 9 + x, none⟩ (.slice va q.length vc) = w5 at *
      clear hlr hfr
      obtain ⟨k0, k1, k2, k3, k4, k5, hl, hf⟩ := H5.out.cells (i := i) hi
      have hlr := H5.out.lt
      have hfr := H5.out.frz
      obtain ⟨h6, b6⟩ := H5.out.raw_ (i := i) hi (j := 1) (u := iv ((p : Int) + 1)) (x := { raw i with at_ := (p : Int) + 1 }) (by omega) (by omega) (fun cs q v hx => hx.at_ ((p : Int) + 1))
      have HE := Lib.hid (ends_r h6 (i := i) hi)
      rw [upd_same, upd_upd] at HE
      have B6 := Lib.hid (B5.out.trans b6)
      clear h6 b6
      go_wp2_with fail
      refine HE.out.mono ?_
      clear HE
      rintro e w' ⟨rfl, hR, hB⟩
      have HR := Lib.hid hR
      have HB := Lib.hid (B6.out.trans hB)
      clear hR hB
      go_wp2
      go_end0
      exact ⟨rfl, ⟨_, HR.out⟩, HB.out⟩
end
end Go.Proofs.Ytompelilflckkaa
