/-
  The document's own run: a step: a put.
-/
import Derived.Test.YtompelilflckkaaMw
set_option linter.unusedSimpArgs false
set_option linter.unusedVariables false
namespace Go.Proofs.Ytompelilflckkaa
open Go.RowKit Go.Fl

theorem R2.qsl {w : World} {base r g o : Nat} {f : Nat → Value} {tv : Value} {vs : Nat → Value} {acts : Nat → List A} {raw : Nat → RT} {s : S} (h : R2 w base r g o f tv vs acts raw s) {k : Nat} (hk : k < 4) : ∃ a c, f (9 + k) = .slice a (s.queues k).length c ∧ w.cell? ⟨r, 9 + k, none⟩ = some (.slice a (s.queues k).length c) ∧ Sl w 2 1 (.slice a (s.queues k).length c) (s.queues k).length (ints (s.queues k)) := by
  have hS := h.rc.row (k := 9 + k) (by omega) (spec2_queue hk)
  obtain ⟨a, c, hv, _, _⟩ := hS.shape
  exact ⟨a, c, hv, by rw [← hv]; exact h.rc.cell (by omega), by rw [← hv]; exact hS⟩
section
variable {w : World} {base r g o : Nat} {f : Nat → Value} {tv : Value} {vs : Nat → Value} {acts : Nat → List A} {raw : Nat → RT} {s : S} {i p x y : Nat} {n : Int}
set_option maxRecDepth 100000 in
set_option maxHeartbeats 32000000 in
theorem st_put (h : R2 w base r g o f tv vs acts raw s) (hn16 : s.n ≤ 16) (hl256 : (acts i).length ≤ 256) (hi : i < s.n) (hp : p < (acts i).length) (hat : (raw i).at_ = p) (ha : (acts i)[p] = ⟨6, x, y, n⟩) (hx : x < 4) (hcl : (s.queues x).length ≤ 65536) :
    Calls Try.prog 26 #[.pointer (some ⟨r, 0, none⟩), iv i] w fun e w' => e = .returned (.tuple #[]) ∧ (∃ f', R2 w' base r g o f' tv vs acts (upd raw i (RT.ended (acts i).length { raw i with at_ := (p : Int) + 1 })) (S.setQueue { s with last := (i : Int) } x (s.queues x ++ [n]))) ∧ BT base w w' := by
  obtain ⟨j2, si, sz0, sz1, sz2⟩ := info_parts info2
  have hxz : (x : Int) < 4 := by omega
  have hz : (i : Int) < (s.n : Int) := by omega
  have hpz : (p : Int) < ((acts i).length : Int) := by omega
  have hne := h.gne (by omega)
  obtain ⟨cap0, _, c0⟩ := h.tcell (by omega)
  obtain ⟨k0, k1, k2, k3, k4, k5, hl, hf⟩ := h.cells hi
  have hlr := h.lt
  have hfr := h.frz
  have cl := h.rc.cellv (k := 22) (by omega) spec2_last
  obtain ⟨h1, b1⟩ := h.last (i : Int)
  have H1 := Lib.hid h1
  have B1 := Lib.hid b1
  clear h h1 b1 k0 k1 k2 k3 k4 k5
  go_enter Try.func26, Try.ntmps26
  go_wp2
  generalize w.setCell ⟨r, 22, none⟩ (.int .i64 i) = w1 at *
  clear c0 hl hf hlr hfr cl
  obtain ⟨k0, k1, k2, k3, k4, k5, hl, hf⟩ := H1.out.cells (i := i) hi
  obtain ⟨ga, oa, ca, hv, hgs, q0, q1, q2, q3⟩ := H1.out.acell (i := i) hi hp
  rw [hat] at k1
  rw [hv] at k0
  rw [ha] at q0 q1 q2 q3
  dsimp only at q0 q1 q2 q3
  refine Lex.wp_region_text (by kernel_rfl) (by kernel_rfl) ?_
  go_wp2
  refine Lex.sq_done (by rfl) ?_
  obtain ⟨h2, b2⟩ := H1.out.only0 ((Only.refl [] w1).alloc (.cells #[iv 6, iv x, iv y, iv n] 47)).drew
  have HX : Hid (Blk (w1.alloc (.cells #[iv 6, iv x, iv y, iv n] 47)).drew w1.heap.size 47 #[iv 6, iv x, iv y, iv n]) := Lib.hid (Blk.new w1 47 #[iv 6, iv x, iv y, iv n]).drew
  have H2 := Lib.hid h2
  have B2 := Lib.hid (B1.out.trans b2)
  have hxr : w1.heap.size ≠ r := fun e => by have := H1.out.lt; omega
  have hxg : w1.heap.size ≠ g := fun e => by omega
  clear h2 b2 k0 k1 k2 k3 k4 k5 hl hf q0 q1 q2 q3 hgs B1
  generalize (w1.alloc (.cells #[.int .i64 6, .int .i64 x, .int .i64 y, .int .i64 n] 47)).drew = w2 at *
  generalize w1.heap.size = bx at *
  obtain ⟨k0, k1, k2, k3, k4, k5, hl, hf⟩ := H2.out.cells (i := i) hi
  rw [hat] at k1
  have hlr := H2.out.lt
  have hfr := H2.out.frz
  obtain ⟨m1, _, m2⟩ := HX.out.facts
  obtain ⟨ca, cc2, hcv, cc, hS⟩ := H2.out.qsl hx
  change _ = Value.slice ca (s.queues x).length cc2 at hcv
  change _ = some (Value.slice ca (s.queues x).length cc2) at cc
  change Sl _ 2 1 (.slice ca (s.queues x).length cc2) (s.queues x).length (ints (s.queues x)) at hS
  have HCV := Lib.hid hcv
  have HS := Lib.hid hS
  have h3 := H2.out
  clear hS hcv
  go_wp2
  have hga : ∀ u, (w2.alloc (.cells u 2)).cell? ⟨bx, 1, none⟩ = some (iv x) := fun u => (HX.out.alloc (.cells u 2)).cell 1
  have hgc : ∀ u, (w2.alloc (.cells u 2)).cell? ⟨bx, 3, none⟩ = some (iv n) := fun u => (HX.out.alloc (.cells u 2)).cell 3
  have hgb : ∀ u, (w2.alloc (.cells u 2)).cell? ⟨r, 9 + x, none⟩ = some (.slice ca (s.queues x).length cc2) := fun u => ((h3.only0 ((Only.refl [] w2).alloc (.cells u 2))).1.rc.cell (k := 9 + x) (by omega)).trans (congrArg some HCV.out)
  clear k0 k1 k2 k3 k4 k5 hl hf
  go_region_law (first
      | (refine step_append_sls rfl (.tmp 106) (.tmp 109) 29 rfl 2 j2 _ 1 8 Try.underlying29 si sz0 sz1 sz2 rfl (by decide) rfl (HS.out.alloc _) rfl (sl_one (Blk.new _ _ _) rfl) (by simp [Value.oneCell']) (by unfold maxLen; omega) (by omega) ?_
         intro v4 w4 hS4 hg4 hat4
         have hG4 : (w2.alloc (.cells #[iv n] 2)).drew.grownBy w4 (Value.slice ca (s.queues x).length cc2).ownBlock := hg4
         have hA4 : v4.ownBlock = (Value.slice ca (s.queues x).length cc2).ownBlock ∨ v4.ownBlock = some (w2.heap.size + 1) := hat4.imp (fun e => e) (fun e => by rw [e]; simp)
         clear hg4 hat4
         obtain ⟨va, vc, hv4, _, _⟩ := hS4.shape
         subst hv4
         have h4 := (h3.only0 ((Only.refl [] w2).alloc (.cells #[iv n] 2)).drew).1
         have HR4 := Lib.hid (h4.queue (k := x) hx (l := s.queues x ++ [n]) (by rw [ints_append, List.length_append]; exact hS4) (by rw [HCV.out]; exact hG4) (fun g hg => by
           rw [HCV.out]
           rcases hA4 with e | e
           · exact .inl (e ▸ hg)
           · rw [e] at hg; injection hg with hg; right; rw [← hg]; simp))
         have HK4 : w4.cell? ⟨bx, 1, none⟩ = some (iv x) ∧ w4.cell? ⟨r, 9 + x, none⟩ = some (.slice ca (s.queues x).length cc2) := by
           refine ⟨?_, ?_⟩
           · refine (Blk.grown (HX.out.alloc (.cells #[iv n] 2)).drew hG4 fun e => ?_).cell 1
             obtain ⟨cur, hb⟩ := HS.out.ty e
             have := hb.ty_eq HX.out; cases this
           · exact ((HR4.out.2.2.cell (9 + x)).trans (cellsN_get (by omega))).trans (congrArg some HCV.out)
         have hfr4 := HR4.out.2.2.frozen
         have hlr4 := HR4.out.2.2.lt
         clear hS4))
  all_goals
    have H3 := Lib.hid HR4.out.1
    have B3 := Lib.hid ((B2.out.trans (h3.only0 ((Only.refl [] w2).alloc (.cells #[iv n] 2)).drew).2).trans HR4.out.2.1)
    clear HK4 hfr4 hlr4 HR4 hga hgb hgc m1 m2 h3 cc HS HCV hA4 hG4 h4
    generalize w4.setCell ⟨r, 9 + x, none⟩ (.slice va ((s.queues x).length + 1 : Nat) vc) = w3 at *
    clear hlr hfr
    obtain ⟨k0, k1, k2, k3, k4, k5, hl, hf⟩ := H3.out.cells (i := i) hi
    have hlr := H3.out.lt
    have hfr := H3.out.frz
    obtain ⟨h6, b6⟩ := H3.out.raw_ (i := i) hi (j := 1) (u := iv ((p : Int) + 1)) (x := { raw i with at_ := (p : Int) + 1 }) (by omega) (by omega) (fun cs q v hx => hx.at_ ((p : Int) + 1))
    have HE := Lib.hid (ends_r h6 (i := i) hi)
    rw [upd_same, upd_upd] at HE
    have B6 := Lib.hid (B3.out.trans b6)
    clear h6 b6
    go_wp2_with fail
    refine HE.out.mono ?_
    clear HE
    rintro e w' ⟨rfl, hR, hB⟩
    have HR := Lib.hid hR
    have HB := Lib.hid (B6.out.trans hB)
    clear hR hB
    go_wp2
    go_end0
    exact ⟨rfl, ⟨_, HR.out⟩, HB.out⟩
end
end Go.Proofs.Ytompelilflckkaa
