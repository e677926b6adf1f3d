/-
  The law's begun.
-/
import Derived.Test.YtompelilflckkaaMr
import Derived.Test.YtompelilflckkaaMq
import Derived.Test.YtompelilflckkaaMd
import Derived.Test.YtompelilflckkaaMm
import Derived.Test.YtompelilflckkaaMc
set_option linter.unusedSimpArgs false
set_option linter.unusedVariables false
namespace Go.Proofs.Ytompelilflckkaa
open Go.RowKit Go.Fl

theorem row_nil {α : Type} (f : α → Value) (w : World) : Row f w (.slice none 0 0) [] := ⟨none, 0, rfl, Nat.le_refl _, by simp, fun h => absurd h (Nat.not_lt_zero _)⟩
theorem acts_of {base g : Nat} {w : World} {l : List A} {cs : Array Value} (hb : Blk w g 47 cs) (hg : g < base) (hc : cs = (l.flatMap fun a => [iv a.kind, iv a.a, iv a.b, iv a.n]).toArray) (hm : l.length ≤ maxLen) : ActsV base w (.slice (some ⟨g, 0, none⟩) l.length l.length) l := by
  have hat : ∀ (l : List A) (i : Nat) (h : i < l.length), (l.flatMap fun a => [iv a.kind, iv a.a, iv a.b, iv a.n])[i * 4]? = some (iv l[i].kind) ∧ (l.flatMap fun a => [iv a.kind, iv a.a, iv a.b, iv a.n])[i * 4 + 1]? = some (iv l[i].a) ∧
      (l.flatMap fun a => [iv a.kind, iv a.a, iv a.b, iv a.n])[i * 4 + 2]? = some (iv l[i].b) ∧ (l.flatMap fun a => [iv a.kind, iv a.a, iv a.b, iv a.n])[i * 4 + 3]? = some (iv l[i].n) := by
    intro l
    induction l with
    | nil => intro i h; exact absurd h (Nat.not_lt_zero _)
    | cons a l ih =>
      intro i h
      cases i with
      | zero => exact ⟨rfl, rfl, rfl, rfl⟩
      | succ i =>
        have := ih i (by simpa using h)
        simp only [List.flatMap_cons, List.getElem_cons_succ]
        rw [List.getElem?_append_right (by simp; omega), List.getElem?_append_right (by simp; omega), List.getElem?_append_right (by simp; omega), List.getElem?_append_right (by simp; omega)]
        simp only [List.length_cons, List.length_nil]
        rw [show (i + 1) * 4 - (0 + 1 + 1 + 1 + 1) = i * 4 by omega, show (i + 1) * 4 + 1 - (0 + 1 + 1 + 1 + 1) = i * 4 + 1 by omega, show (i + 1) * 4 + 2 - (0 + 1 + 1 + 1 + 1) = i * 4 + 2 by omega, show (i + 1) * 4 + 3 - (0 + 1 + 1 + 1 + 1) = i * 4 + 3 by omega]
        exact this
  refine ⟨_, _, rfl, Nat.le_refl _, hm, fun h0 => ⟨g, 0, rfl, hg, hb.lt, fun i hi => ?_⟩⟩
  obtain ⟨h1, h2, h3, h4⟩ := hat l i hi
  subst hc
  refine ⟨(hb.cell _).trans ?_, (hb.cell _).trans ?_, (hb.cell _).trans ?_, (hb.cell _).trans ?_⟩
  · simpa using h1
  · simpa using h2
  · simpa using h3
  · simpa using h4
end Go.Proofs.Ytompelilflckkaa
/-
  The law's begun: it answers true.
-/
namespace Go.Proofs.Ytompelilflckkaa
open Go.RowKit Go.Fl

set_option maxRecDepth 100000 in
set_option maxHeartbeats 3200000 in
theorem begun_ok (w : World) : Calls Try.prog 9 #[] w fun e w' => e = .returned (.bool true) ∧ Only [] w w' := by
  have hO3 : Only [] w (((w.alloc (.cells #[iv 13, iv 0, iv 0, iv 2, iv 12, iv 0, iv 0, iv 9, iv 8, iv 0, iv 0, iv 1] 47)).alloc (.cells #[iv 7, iv 0, iv 0, iv 0] 47)).alloc (.cells #[.slice (some ⟨w.heap.size, 0, none⟩) 3 3, .slice (some ⟨w.heap.size + 1, 0, none⟩) 1 1] 45)) := (((Only.refl [] w).alloc _).alloc _).alloc _
  have b0 : Blk (((w.alloc (.cells #[iv 13, iv 0, iv 0, iv 2, iv 12, iv 0, iv 0, iv 9, iv 8, iv 0, iv 0, iv 1] 47)).alloc (.cells #[iv 7, iv 0, iv 0, iv 0] 47)).alloc (.cells #[.slice (some ⟨w.heap.size, 0, none⟩) 3 3, .slice (some ⟨w.heap.size + 1, 0, none⟩) 1 1] 45)) w.heap.size 47 #[iv 13, iv 0, iv 0, iv 2, iv 12, iv 0, iv 0, iv 9, iv 8, iv 0, iv 0, iv 1] := ((Blk.new _ _ _).alloc _).alloc _
  have b1 : Blk (((w.alloc (.cells #[iv 13, iv 0, iv 0, iv 2, iv 12, iv 0, iv 0, iv 9, iv 8, iv 0, iv 0, iv 1] 47)).alloc (.cells #[iv 7, iv 0, iv 0, iv 0] 47)).alloc (.cells #[.slice (some ⟨w.heap.size, 0, none⟩) 3 3, .slice (some ⟨w.heap.size + 1, 0, none⟩) 1 1] 45)) (w.heap.size + 1) 47 #[iv 7, iv 0, iv 0, iv 0] := by
    have := (Blk.new (w.alloc (.cells #[iv 13, iv 0, iv 0, iv 2, iv 12, iv 0, iv 0, iv 9, iv 8, iv 0, iv 0, iv 1] 47)) 47 #[iv 7, iv 0, iv 0, iv 0]).alloc (.cells #[.slice (some ⟨w.heap.size, 0, none⟩) 3 3, .slice (some ⟨w.heap.size + 1, 0, none⟩) 1 1] 45)
    simpa using this
  have b2 : Blk (((w.alloc (.cells #[iv 13, iv 0, iv 0, iv 2, iv 12, iv 0, iv 0, iv 9, iv 8, iv 0, iv 0, iv 1] 47)).alloc (.cells #[iv 7, iv 0, iv 0, iv 0] 47)).alloc (.cells #[.slice (some ⟨w.heap.size, 0, none⟩) 3 3, .slice (some ⟨w.heap.size + 1, 0, none⟩) 1 1] 45)) (w.heap.size + 1 + 1) 45 #[.slice (some ⟨w.heap.size, 0, none⟩) 3 3, .slice (some ⟨w.heap.size + 1, 0, none⟩) 1 1] := by
    have := Blk.new ((w.alloc (.cells #[iv 13, iv 0, iv 0, iv 2, iv 12, iv 0, iv 0, iv 9, iv 8, iv 0, iv 0, iv 1] 47)).alloc (.cells #[iv 7, iv 0, iv 0, iv 0] 47)) 45 #[.slice (some ⟨w.heap.size, 0, none⟩) 3 3, .slice (some ⟨w.heap.size + 1, 0, none⟩) 1 1]
    simpa using this
  go_enter Try.func9, Try.ntmps9
  go_wp2_with fail
  generalize ((w.alloc (.cells #[.int .i64 13, .int .i64 0, .int .i64 0, .int .i64 2, .int .i64 12, .int .i64 0, .int .i64 0, .int .i64 9, .int .i64 8, .int .i64 0, .int .i64 0, .int .i64 1] 47)).alloc (.cells #[.int .i64 7, .int .i64 0, .int .i64 0, .int .i64 0] 47)).alloc (.cells #[.slice (some ⟨w.heap.size, 0, none⟩) 3 3, .slice (some ⟨w.heap.size + 1, 0, none⟩) 1 1] 45) = w3 at *
  have HT := Lib.hid (show TasksV w3.heap.size w3 (.slice (some ⟨w.heap.size + 1 + 1, 0, none⟩) 2 2) actsB from ⟨_, _, rfl, Nat.le_refl _, by decide, fun _ => ⟨_, 0, rfl, b2.lt, b2.lt, fun i hi => by
    match i, hi with
    | 0, _ => exact ⟨_, b2.cell _, acts_of (l := [⟨13, 0, 0, 2⟩, ⟨12, 0, 0, 9⟩, ⟨8, 0, 0, 1⟩]) b0 b0.lt rfl (by decide)⟩
    | 1, _ => exact ⟨_, b2.cell _, acts_of (l := [⟨7, 0, 0, 0⟩]) b1 b1.lt rfl (by decide)⟩⟩⟩)
  have HR := Lib.hid (run_ok 1 99 HT.out (row_nil intv w3) (fun g hg => by simp [Value.ownBlock] at hg) asked_B)
  refine HR.out.mono ?_
  clear HR HT
  rintro e w4 ⟨v, rfl, hV, hB⟩
  have hV : RunV w3.heap.size w4 sB v := hV
  obtain ⟨tr, rg, en, qs, vs, hv, htr, hrg, hen, hqs, _, _, _, _, _⟩ := hV.it
  rw [sB_trace] at hv htr
  rw [sB_n] at hen
  obtain ⟨xa, xc, hx, _, _⟩ := htr.shape
  obtain ⟨ya, yc, hy, _, _⟩ := hqs.shape
  obtain ⟨g1, o1, k1, hr1, hg1, _, _, hc1, _⟩ := hrg.form (by omega)
  obtain ⟨g2, o2, k2, hr2, hg2, _, _, hc2, _⟩ := hen.form (by omega)
  have d7 : w4.cell? ⟨g1, o1 + 7, none⟩ = some (iv 9) := (hc1 7 (by omega)).trans (by show some (iv (sB.regs 7)) = _; rw [sB_7])
  have d0 : w4.cell? ⟨g1, o1, none⟩ = some (iv 1) := (hc1 0 (by omega)).trans (by show some (iv (sB.regs 0)) = _; rw [sB_0])
  have f0 : w4.cell? ⟨g2, o2, none⟩ = some (iv 1) := (hc2 0 (by omega)).trans (by show some (iv (how sB (sB.ts 0))) = _; rw [sB_how0])
  have f2 : w4.cell? ⟨g2, o2 + 2, none⟩ = some (iv 7) := (hc2 2 (by omega)).trans (by show some (iv (how sB (sB.ts 1))) = _; rw [sB_how1])
  subst hx hy hr1 hr2
  subst hv
  have HO4 : Hid (Below w.heap.size w w4) := Lib.hid ((Below.of_only hO3 (Nat.le_refl _)).trans ⟨hB.os, hB.tape, hB.output, hB.size, fun i hi => hB.block i (Nat.lt_of_lt_of_le hi hO3.size)⟩)
  clear hc1 hc2 htr hrg hen hqs hV hB b0 b1 b2 hO3
  have b0 : Blk (((w4.alloc (.cells #[.int .i64 3, .slice xa 3 xc, .slice (some ⟨g1, o1, none⟩) 8 k1, .slice (some ⟨g2, o2, none⟩) 2 k2, .slice ya 4 yc] 33)).alloc (.cells #[.int .i64 11, .int .i64 0, .int .i64 0, .int .i64 0] 47)).alloc (.cells #[.slice (some ⟨w4.heap.size + 1, 0, none⟩) 1 1] 45)) w4.heap.size 33 #[.int .i64 3, .slice xa 3 xc, .slice (some ⟨g1, o1, none⟩) 8 k1, .slice (some ⟨g2, o2, none⟩) 2 k2, .slice ya 4 yc] := ((Blk.new _ _ _).alloc _).alloc _
  have b1 : Blk (((w4.alloc (.cells #[.int .i64 3, .slice xa 3 xc, .slice (some ⟨g1, o1, none⟩) 8 k1, .slice (some ⟨g2, o2, none⟩) 2 k2, .slice ya 4 yc] 33)).alloc (.cells #[.int .i64 11, .int .i64 0, .int .i64 0, .int .i64 0] 47)).alloc (.cells #[.slice (some ⟨w4.heap.size + 1, 0, none⟩) 1 1] 45)) (w4.heap.size + 1) 47 #[.int .i64 11, .int .i64 0, .int .i64 0, .int .i64 0] := by
    have := (Blk.new (w4.alloc (.cells #[.int .i64 3, .slice xa 3 xc, .slice (some ⟨g1, o1, none⟩) 8 k1, .slice (some ⟨g2, o2, none⟩) 2 k2, .slice ya 4 yc] 33)) 47 #[.int .i64 11, .int .i64 0, .int .i64 0, .int .i64 0]).alloc (.cells #[.slice (some ⟨w4.heap.size + 1, 0, none⟩) 1 1] 45)
    simpa using this
  have b2 : Blk (((w4.alloc (.cells #[.int .i64 3, .slice xa 3 xc, .slice (some ⟨g1, o1, none⟩) 8 k1, .slice (some ⟨g2, o2, none⟩) 2 k2, .slice ya 4 yc] 33)).alloc (.cells #[.int .i64 11, .int .i64 0, .int .i64 0, .int .i64 0] 47)).alloc (.cells #[.slice (some ⟨w4.heap.size + 1, 0, none⟩) 1 1] 45)) (w4.heap.size + 1 + 1) 45 #[.slice (some ⟨w4.heap.size + 1, 0, none⟩) 1 1] := by
    have := Blk.new ((w4.alloc (.cells #[.int .i64 3, .slice xa 3 xc, .slice (some ⟨g1, o1, none⟩) 8 k1, .slice (some ⟨g2, o2, none⟩) 2 k2, .slice ya 4 yc] 33)).alloc (.cells #[.int .i64 11, .int .i64 0, .int .i64 0, .int .i64 0] 47)) 45 #[.slice (some ⟨w4.heap.size + 1, 0, none⟩) 1 1]
    simpa using this
  have hO6 : Only [] w4 (((w4.alloc (.cells #[.int .i64 3, .slice xa 3 xc, .slice (some ⟨g1, o1, none⟩) 8 k1, .slice (some ⟨g2, o2, none⟩) 2 k2, .slice ya 4 yc] 33)).alloc (.cells #[.int .i64 11, .int .i64 0, .int .i64 0, .int .i64 0] 47)).alloc (.cells #[.slice (some ⟨w4.heap.size + 1, 0, none⟩) 1 1] 45)) := (((Only.refl [] w4).alloc _).alloc _).alloc _
  go_wp2_with fail
  generalize ((w4.alloc (.cells #[.int .i64 3, .slice xa 3 xc, .slice (some ⟨g1, o1, none⟩) 8 k1, .slice (some ⟨g2, o2, none⟩) 2 k2, .slice ya 4 yc] 33)).alloc (.cells #[.int .i64 11, .int .i64 0, .int .i64 0, .int .i64 0] 47)).alloc (.cells #[.slice (some ⟨w4.heap.size + 1, 0, none⟩) 1 1] 45) = w6 at *
  have HT := Lib.hid (show TasksV w6.heap.size w6 (.slice (some ⟨w4.heap.size + 1 + 1, 0, none⟩) 1 1) actsC from ⟨_, _, rfl, Nat.le_refl _, by decide, fun _ => ⟨_, 0, rfl, b2.lt, b2.lt, fun i hi => by
    match i, hi with
    | 0, _ => exact ⟨_, b2.cell _, acts_of (l := [⟨11, 0, 0, 0⟩]) b1 b1.lt rfl (by decide)⟩⟩⟩)
  have HR := Lib.hid (ready_run 1 HT.out (row_nil intv w6) (fun g hg => by simp [Value.ownBlock] at hg) asked_C)
  refine HR.out.mono ?_
  clear HR HT
  rintro e w7 ⟨u, rfl, hS, hF, hB⟩
  have hS : Sl w7 3 1 u (ready (all [] 0 (begin_ actsC 1))).length (nats (ready (all [] 0 (begin_ actsC 1)))) := hS
  rw [ready_C] at hS
  obtain ⟨ua, uc, hu, _, _⟩ := hS.shape
  subst hu
  have hk : ∀ g i v, g < w4.heap.size → w4.cell? ⟨g, i, none⟩ = some v → w7.cell? ⟨g, i, none⟩ = some v := fun g i v hg hc => by
    rw [World.cell?_of_block (w := w6) (w' := w7) (a := ⟨g, i, none⟩) (hB.block g (Nat.lt_of_lt_of_le hg hO6.size)), hO6.cell (p := ⟨g, i, none⟩) hg (by simp)]
    exact hc
  have d7 := hk _ _ _ hg1 d7
  have d0 := hk _ _ _ hg1 d0
  have f0 := hk _ _ _ hg2 f0
  have f2 := hk _ _ _ hg2 f2
  have hb7 : Blk w7 w4.heap.size 33 #[.int .i64 3, .slice xa 3 xc, .slice (some ⟨g1, o1, none⟩) 8 k1, .slice (some ⟨g2, o2, none⟩) 2 k2, .slice ya 4 yc] := (hB.block _ b0.lt).trans b0
  obtain ⟨hcb, _, hlb⟩ := hb7.facts
  have HO7 := Lib.hid ((HO4.out.trans (Below.of_only hO6 HO4.out.size)).trans ⟨hB.os, hB.tape, hB.output, hB.size, fun i hi => hB.block i (Nat.lt_of_lt_of_le hi (Nat.le_trans HO4.out.size hO6.size))⟩)
  have HMY := Lib.hid (may_ok (base := 0) (w := w7) (tv := .slice none 0 0) (acts := []) ⟨none, 0, rfl, Nat.le_refl _, by simp, fun h => absurd h (Nat.not_lt_zero _)⟩ (Nat.zero_le _))
  rw [may_nil] at HMY
  clear hS hF hB hk hb7 b0 b1 b2 hO6
  go_wp2_with fail
  refine HMY.out.mono ?_
  clear HMY
  rintro e w8 ⟨rfl, hO8⟩
  have HO8 := Lib.hid (HO7.out.trans (Below.of_only hO8 HO7.out.size))
  clear hO8
  go_wp2
  exact bodyPost_ret (results_tmp rfl _ _ _) rfl ⟨rfl, Only.of_below HO8.out _⟩
end Go.Proofs.Ytompelilflckkaa
/-
  Acts and tasks as slices of one's own; what may be asked for.
-/
namespace Go.Proofs.Ytompelilflckkaa
open Go.RowKit Go.Fl

def flatA (l : List A) : List Value := l.flatMap fun a => [iv a.kind, iv a.a, iv a.b, iv a.n]
theorem flatA_append (x y : List A) : flatA (x ++ y) = flatA x ++ flatA y := by simp [flatA]
theorem flatA_one (a : A) : flatA [a] = [iv a.kind, iv a.a, iv a.b, iv a.n] := rfl
theorem flatA_cons (a : A) (l : List A) : flatA (a :: l) = [iv a.kind, iv a.a, iv a.b, iv a.n] ++ flatA l := by simp [flatA]
theorem flatA_at : ∀ (l : List A) (i : Nat) (h : i < l.length), (flatA l)[i * 4]? = some (iv l[i].kind) ∧ (flatA l)[i * 4 + 1]? = some (iv l[i].a) ∧ (flatA l)[i * 4 + 2]? = some (iv l[i].b) ∧ (flatA l)[i * 4 + 3]? = some (iv l[i].n)
  | [], i, h => absurd h (Nat.not_lt_zero _)
  | a :: l, 0, _ => ⟨rfl, rfl, rfl, rfl⟩
  | a :: l, i + 1, h => by
    have := flatA_at l i (by simpa using h)
    rw [flatA_cons]
    simp only [List.getElem_cons_succ]
    rw [List.getElem?_append_right (by simp; omega), List.getElem?_append_right (by simp; omega), List.getElem?_append_right (by simp; omega), List.getElem?_append_right (by simp; omega)]
    simp only [List.length_cons, List.length_nil]
    rw [show (i + 1) * 4 - (0 + 1 + 1 + 1 + 1) = i * 4 by omega, show (i + 1) * 4 + 1 - (0 + 1 + 1 + 1 + 1) = i * 4 + 1 by omega, show (i + 1) * 4 + 2 - (0 + 1 + 1 + 1 + 1) = i * 4 + 2 by omega, show (i + 1) * 4 + 3 - (0 + 1 + 1 + 1 + 1) = i * 4 + 3 by omega]
    exact this
theorem info47 : (Try.prog.info? 47).map (fun i => (i.zero, i.size, i.bytes)) = some (some (.agg #[iv 0, iv 0, iv 0, iv 0]), 4, 32) := by kernel_rfl
theorem sl_quad {w : World} {g e : Nat} {x y z u : Value} {c : Nat} (h : Blk w g e #[x, y, z, u]) (hc : c = 1) : Sl w e 4 (.slice (some ⟨g, 0, none⟩) 1 c) 1 [x, y, z, u] :=
  ⟨rfl, .inr ⟨g, 0, c, _, rfl, h, by omega, by rw [hc]; decide, by rw [hc]; exact Nat.le_refl 4, rfl⟩⟩
/-- Acts in a slice of one's own. -/
theorem acts_sl {w : World} {v : Value} {n : Nat} {l : List A} (h : Sl w 47 4 v n (flatA l)) (hn : n = l.length) : ActsV w.heap.size w v l := by
  subst hn
  by_cases h0 : 0 < l.length
  · obtain ⟨g, off, cap, rfl, hg, hc, hm, hcell, _⟩ := h.form h0
    refine ⟨_, _, rfl, hc, hm, fun _ => ⟨g, off, rfl, hg, hg, fun i hi => ?_⟩⟩
    obtain ⟨h1, h2, h3, h4⟩ := flatA_at l i hi
    refine ⟨(hcell _ (by omega)).trans h1, ?_, ?_, ?_⟩
    · rw [Nat.add_assoc]; exact (hcell _ (by omega)).trans h2
    · rw [Nat.add_assoc]; exact (hcell _ (by omega)).trans h3
    · rw [Nat.add_assoc]; exact (hcell _ (by omega)).trans h4
  · obtain ⟨a, cap, rfl, hc, _⟩ := h.shape
    rcases h.2 with ⟨e, _⟩ | ⟨g, off, cap', cur, e, _, _, hm, _⟩
    · injection e with e1 e2 e3
      subst e1; subst e3
      exact ⟨_, _, rfl, hc, by decide, fun h => absurd h h0⟩
    · injection e with e1 e2 e3
      subst e3
      exact ⟨_, _, rfl, hc, hm, fun h => absurd h h0⟩
/-- Tasks in a slice of one's own. -/
theorem tasks_sl {w : World} {v : Value} {n : Nat} {vs : List Value} {acts : List (List A)} (h : Sl w 45 1 v n vs) (hn : n = acts.length) (ha : ∀ i (hi : i < acts.length) (hv : i < vs.length), ActsV w.heap.size w vs[i] acts[i]) : TasksV w.heap.size w v acts := by
  subst hn
  have hl := h.len
  by_cases h0 : 0 < acts.length
  · obtain ⟨g, off, cap, rfl, hg, hc, hm, hcell, _⟩ := h.form h0
    refine ⟨_, _, rfl, hc, hm, fun _ => ⟨g, off, rfl, hg, hg, fun i hi => ?_⟩⟩
    refine ⟨vs[i]'(by omega), (hcell _ (by omega)).trans (List.getElem?_eq_getElem _), ha i hi _⟩
  · obtain ⟨a, cap, rfl, hc, _⟩ := h.shape
    rcases h.2 with ⟨e, _⟩ | ⟨g, off, cap', cur, e, _, _, hm, _⟩
    · injection e with e1 e2 e3
      subst e1; subst e3
      exact ⟨_, _, rfl, hc, by decide, fun h => absurd h h0⟩
    · injection e with e1 e2 e3
      subst e3
      exact ⟨_, _, rfl, hc, hm, fun h => absurd h h0⟩
theorem asked_of {acts : List (List A)} {room most : Int} {ps : List Int} (h1 : acts.length ≤ 16) (h2 : 1 ≤ room) (h3 : room ≤ 16) (h4 : 0 ≤ most) (h5 : most ≤ 65536) (h6 : ps.length ≤ 65536) (h7 : ∀ k ∈ ps, 0 ≤ k) (h8 : ∀ l ∈ acts, l.length ≤ 256 ∧ ∀ a ∈ l, oddA a = false ∧ wrongA l.length a = false) : askedM acts room ps most = 0 := by
  have hodd : oddsIn acts = false := by
    unfold oddsIn
    rw [Bool.eq_false_iff]
    intro ht
    obtain ⟨l, hl1, h2⟩ := List.any_eq_true.1 ht
    obtain ⟨a, ha, h3⟩ := List.any_eq_true.1 h2
    rw [((h8 l hl1).2 a ha).1] at h3
    cases h3
  have hwr : wrongsIn acts = false := by
    unfold wrongsIn
    rw [Bool.eq_false_iff]
    intro ht
    obtain ⟨l, hl1, h2⟩ := List.any_eq_true.1 ht
    obtain ⟨a, ha, h3⟩ := List.any_eq_true.1 h2
    rw [((h8 l hl1).2 a ha).2] at h3
    cases h3
  have hlen : acts.any (fun l => decide (256 < l.length)) = false := by
    rw [Bool.eq_false_iff]
    intro ht
    obtain ⟨l, hl1, h2⟩ := List.any_eq_true.1 ht
    have := (h8 l hl1).1
    simp at h2
    omega
  have hp : ps.any (fun k => decide (k < 0)) = false := by
    rw [Bool.eq_false_iff]
    intro ht
    obtain ⟨l, hl1, h2⟩ := List.any_eq_true.1 ht
    have := h7 l hl1
    simp at h2
    omega
  have hm : mayM acts = 0 := by
    unfold mayM
    rw [hodd, hwr, hlen, if_neg (fun h => h.elim (by omega) (by simp)), if_neg (by decide), if_neg (by decide)]
  unfold askedM
  rw [hm, hp, if_neg (by omega), if_neg (by omega), if_neg (by decide)]
end Go.Proofs.Ytompelilflckkaa
/-
  Helpers of the laws' walks: a slice beside one that grows; several elements appended; picks as arguments; what may be asked for.
-/
namespace Go.Proofs.Ytompelilflckkaa
open Go.RowKit Go.Fl

/-- A slice beside one that grows. -/
theorem sl_beside {w w' : World} {e size n : Nat} {v : Value} {xs : List Value} {row : Option Nat} (h : Sl w e size v n xs) (hg : w.grownBy w' row) (hne : ∀ g, v.ownBlock = some g → row ≠ some g) : Sl w' e size v n xs :=
  h.keep fun g hv => hg.block g (h.lt g hv) (fun k => hne g hv k.symm)
/-- Several elements, just laid in a block of their own. -/
theorem wpList_append_many {P : Program} {w : World} {ops : Array Oper} {rest : List Oper} {o : Oper} {a : Act} {Q : Exit → Act → World → Prop} (hgd : o.guard = none) (s x : Operand) (t : TypeId)
    (ho : o.op = .call { callee := .builtin .append, args := #[s, x], argTypes := #[t, t] })
    (e : TypeId) (i : TypeInfo) (z : Value) (size bytes : Nat) (ht : P.underlying t = some (.slice e)) (hi : P.info? e = some i) (hz : i.zero = some z)
    (hsize : i.size = size) (hby : i.bytes = bytes) (hzs : z.cells.size = size) (hsz : 0 < size)
    {v : Value} {n : Nat} {xs : List Value} (hs : a.eval s = v) (hown : Sl w e size v n xs)
    {g c m : Nat} {news : List Value} (hx : a.eval x = .slice (some ⟨g, 0, none⟩) m c) (hb : Blk w g e news.toArray) (hl : news.length = m * size) (h1 : ∀ u ∈ news, u.oneCell' = true)
    (h63 : n + m ≤ maxLen) (hbytes : (n + m) * bytes ≤ 140737488355328)
    (h : ∀ v' w', Sl w' e size v' (n + m) (xs ++ news) → w.grownBy w' v.ownBlock → (v'.ownBlock = v.ownBlock ∨ v'.ownBlock = some w.heap.size) → wpList P ops Q rest (a.put o.dst v') w') : wpList P ops Q (o :: rest) a w :=
  wpList_append_sl w hgd s x t ho e i z size bytes ht hi hz hsize hby hzs hsz v n xs hs hown ⟨g, 0, none⟩ m c news hx hl
    (fun j u hu => by rw [Addr.add_lit, hb.cell]; simpa using hu) h1 h63 hbytes h
/-- An argument's block stands in the heap. -/
theorem own_of_wide {P : Program} {w : World} {r : Reach} {b0 : Nat} {t e : TypeId} {v : Value} (ht : P.underlying t = some (.slice e)) (h : Value.okWide P w r b0 t v) : ∀ g, v.ownBlock = some g → g < w.heap.size := by
  obtain ⟨a, len, cap, rfl⟩ := Go.WideShapes.okWide_slice ht h
  intro g hg
  cases a with
  | none => cases hg
  | some a =>
    injection hg with hg
    subst hg
    simp only [Value.okWide, ht, Cell.okWide, Cell.ok] at h
    obtain ⟨_, _, _, _, row, cells, hs, _⟩ := h
    unfold World.shape? at hs
    by_cases hlt : a.block < w.heap.size
    · exact hlt
    · rw [Array.getElem?_eq_none (by omega)] at hs
      cases hs
theorem info45 : (Try.prog.info? 45).map (fun i => (i.zero, i.size, i.bytes)) = some (some (.slice none 0 0), 1, 24) := by kernel_rfl
theorem turns_at : ∀ (l : List (Nat × Nat)) (i : Nat) (h : i < l.length), (turns l)[i * 2]? = some (iv (l[i].1 : Int))
  | [], i, h => absurd h (Nat.not_lt_zero _)
  | p :: l, 0, _ => rfl
  | p :: l, i + 1, h => by
    have := turns_at l i (by simpa using h)
    simp only [List.getElem_cons_succ]
    rw [show (i + 1) * 2 = i * 2 + 1 + 1 by omega]
    exact this
theorem ends_at (s : S) (k i : Nat) (h : i < k) : (endsV s k)[i * 2]? = some (iv (how s (s.ts i))) := by
  induction k with
  | zero => omega
  | succ k ih =>
    have hl : (endsV s k).length = k * 2 := by
      unfold endsV
      clear ih h
      induction k with
      | zero => rfl
      | succ k ih => rw [List.range_succ, List.flatMap_append, List.length_append, ih]; simp; omega
    rw [endsV_succ]
    by_cases e : i < k
    · rw [List.getElem?_append_left (by omega)]; exact ih e
    · obtain rfl : i = k := by omega
      rw [List.getElem?_append_right (by omega), hl, Nat.sub_self]; rfl
theorem level_take {l : List (Nat × Nat)} {i : Nat} (h : i < l.length) : level (l.take (i + 1)) = level (l.take i) + if l[i].1 = 0 then 1 else -1 := by
  rw [List.take_succ_eq_append_getElem h, level_snoc]
theorem qPut_succ (k : Nat) : qPut (k + 1) = qPut k ++ [⟨6, 0, 0, (k : Int)⟩] := by
  unfold qPut
  rw [List.range_succ, List.map_append]; rfl
theorem qTake_succ (k : Nat) : qTake (k + 1) = qTake k ++ [⟨7, 0, 3, 0⟩] := by
  unfold qTake
  rw [List.range_succ, List.map_append]; rfl
theorem q_asked {n room : Nat} {ps : List Int} (h2 : n ≤ 100) (h3 : 1 ≤ room) (h4 : room ≤ 16) (h5 : ps.length ≤ 3000) (h6 : ∀ k ∈ ps, 0 ≤ k) : askedM (qTasks n) room ps 65536 = 0 := by
  refine asked_of (by simp [qTasks]) (by omega) (by omega) (by omega) (by omega) (by omega) h6 fun l hl1 => ?_
  simp only [qTasks, List.mem_cons, List.not_mem_nil, or_false] at hl1
  rcases hl1 with rfl | rfl
  · refine ⟨by rw [qPut_len]; omega, fun a ha => ?_⟩
    obtain ⟨k, _, rfl⟩ := List.mem_map.1 ha
    exact ⟨by simp [oddA], by simp [wrongA, rightB, btw]⟩
  · refine ⟨by rw [qTake_len]; omega, fun a ha => ?_⟩
    obtain ⟨k, _, rfl⟩ := List.mem_map.1 ha
    exact ⟨by simp [oddA], by simp [wrongA, rightB, btw]⟩
end Go.Proofs.Ytompelilflckkaa
/-
  Tasks as an argument: a slice of slices of acts, opened.
-/
namespace Go.Proofs.Ytompelilflckkaa
open Go.RowKit Go.Fl Go.ChangeShapes Go.WideShapes Go.Deep

section
variable {H : Type} {enc : TypeId × Value → H} {P : Program} {w : World}
theorem spot_none {a : Addr} {v : Value} (h : w.cell? a = some v) : a.spot = none := by
  unfold World.cell? at h
  split at h
  · split at h
    · cases h
    · rename_i k; simpa using k
  · cases h
theorem open_acts {t e : TypeId} {fuel : Nat} {cs : List Value} {x : DataW H × List MemPlace} (ht : P.underlying t = some (.slice e)) (hk : P.cellsOf e = 4) (he : IntCells enc P w e 4)
    (h : DataW.trod enc P w 0 (fun _ => true) true fuel t cs = some x) : ∃ v l, cs = [v] ∧ ActsV w.heap.size w v l := by
  rcases open_slice ht h with ⟨h0, _⟩ | ⟨a', len, cap, m, n, D, Pl, hcs, hb, hl, hm, hmm, hx, hi⟩
  · exact ⟨_, [], h0, none, 0, rfl, by simp, by simp, fun h => absurd h (Nat.not_lt_zero _)⟩
  · simp at hmm
    have hall : ∀ i, i < len → ∃ y : A, w.cell? ((a'.add (i * 4)).add 0) = some (iv y.kind) ∧ w.cell? ((a'.add (i * 4)).add 1) = some (iv y.a) ∧ w.cell? ((a'.add (i * 4)).add 2) = some (iv y.b) ∧ w.cell? ((a'.add (i * 4)).add 3) = some (iv y.n) := fun i hi1 => by
      obtain ⟨cs', hc, hd⟩ := hi i (by omega)
      rw [hk] at hc
      obtain ⟨_, _, hat⟩ := World.cells?_some hc
      obtain ⟨y0, h0⟩ := he _ _ _ hd 0 (by omega)
      obtain ⟨y1, h1⟩ := he _ _ _ hd 1 (by omega)
      obtain ⟨y2, h2⟩ := he _ _ _ hd 2 (by omega)
      obtain ⟨y3, h3⟩ := he _ _ _ hd 3 (by omega)
      exact ⟨⟨y0, y1, y2, y3⟩, (hat 0 (by omega)).trans h0, (hat 1 (by omega)).trans h1, (hat 2 (by omega)).trans h2, (hat 3 (by omega)).trans h3⟩
    obtain ⟨l, hll, hp⟩ := list_of (p := fun i (y : A) => w.cell? ((a'.add (i * 4)).add 0) = some (iv y.kind) ∧ w.cell? ((a'.add (i * 4)).add 1) = some (iv y.a) ∧ w.cell? ((a'.add (i * 4)).add 2) = some (iv y.b) ∧ w.cell? ((a'.add (i * 4)).add 3) = some (iv y.n)) len hall
    subst hll
    refine ⟨_, l, hcs, _, _, rfl, hl, hm, fun hn => ?_⟩
    have hsp : a'.spot = none := spot_none (hp 0 hn).1
    have hlt := cell_lt (hp 0 hn).1
    obtain ⟨g, off, sp⟩ := a'
    simp only at hsp
    subst hsp
    refine ⟨g, off, rfl, hlt, hlt, fun i hi1 => ?_⟩
    obtain ⟨h0, h1, h2, h3⟩ := hp i hi1
    rw [Addr.add_lit, Addr.add_lit] at h0 h1 h2 h3
    exact ⟨h0, h1, h2, h3⟩
theorem open_tasks {r : Reach} {b0 : Nat} {t e f : TypeId} {v : Value} {d : DataW H} {ps : List MemPlace} (ht : P.underlying t = some (.slice e)) (hk1 : P.cellsOf e = 1) (hte : P.underlying e = some (.slice f)) (hk : P.cellsOf f = 4) (he : IntCells enc P w f 4)
    (hval : Value.okWide P w r b0 t v) (h : DataW.Trod enc P w 0 (fun _ => true) true t v d ps) : ∃ l, TasksV w.heap.size w v l := by
  obtain ⟨a, len, cap, rfl⟩ := okWide_slice ht hval
  obtain ⟨fuel, h⟩ := h
  rcases open_slice ht h with ⟨h0, _⟩ | ⟨a', len', cap', m, n, D, Pl, hcs, hb, hl, hm, hmm, hx, hi⟩
  · simp [Value.cells] at h0
    obtain ⟨rfl, rfl, rfl⟩ := h0
    exact ⟨[], none, 0, rfl, by simp, by simp, fun h => absurd h (Nat.not_lt_zero _)⟩
  · simp [Value.cells] at hcs
    obtain ⟨rfl, rfl, rfl⟩ := hcs
    simp at hmm
    have hall : ∀ i, i < len → ∃ y : List A, ∃ v, w.cell? (a'.add i) = some v ∧ ActsV w.heap.size w v y := fun i hi1 => by
      obtain ⟨cs', hc, hd⟩ := hi i (by omega)
      rw [hk1, Nat.mul_one] at hc
      obtain ⟨v, l, rfl, hl⟩ := open_acts hte hk he hd
      have := (World.cells?_some hc).2.2 0 (by omega)
      exact ⟨l, v, by simpa [Addr.add] using this, hl⟩
    obtain ⟨l, hll, hp⟩ := list_of (p := fun i (y : List A) => ∃ v, w.cell? (a'.add i) = some v ∧ ActsV w.heap.size w v y) len hall
    subst hll
    refine ⟨l, _, _, rfl, hl, hm, fun hn => ?_⟩
    obtain ⟨v0, h0, _⟩ := hp 0 hn
    have hsp : a'.spot = none := spot_none h0
    have hlt := cell_lt h0
    obtain ⟨g, off, sp⟩ := a'
    simp only at hsp
    subst hsp
    refine ⟨g, off, rfl, hlt, hlt, fun i hi1 => ?_⟩
    obtain ⟨v, h1, h2⟩ := hp i hi1
    rw [Addr.add_lit] at h1
    exact ⟨v, h1, h2⟩
end
end Go.Proofs.Ytompelilflckkaa
/-
  Are two runs the same? The law's ints and Eq, of one run told twice.
-/
namespace Go.Proofs.Ytompelilflckkaa
open Go.RowKit Go.Fl

theorem row_sl {α : Type} {f : α → Value} {w : World} {v : Value} {e n : Nat} {l : List α} (h : Sl w e 1 v n (l.map f)) (hn : n = l.length) : Row f w v l := by
  subst hn
  by_cases h0 : 0 < l.length
  · obtain ⟨g, off, cap, rfl, hg, hc, hm, hcell, _⟩ := h.form h0
    refine ⟨_, _, rfl, hc, hm, fun _ => ⟨g, off, rfl, hg, fun i hi => ?_⟩⟩
    rw [hcell i (by omega), List.getElem?_map, List.getElem?_eq_getElem hi]; rfl
  · obtain ⟨a, cap, rfl, hc, _⟩ := h.shape
    rcases h.2 with ⟨e, _⟩ | ⟨g, off, cap', cur, e, _, _, hm, _⟩
    · injection e with e1 e2 e3
      subst e1; subst e3
      exact ⟨_, _, rfl, hc, by decide, fun h => absurd h h0⟩
    · injection e with e1 e2 e3
      subst e3
      exact ⟨_, _, rfl, hc, hm, fun h => absurd h h0⟩
set_option maxRecDepth 100000 in
set_option maxHeartbeats 3200000 in
theorem ints_ok {w : World} {u v : Value} {l : List Int} (h1 : Row intv w u l) (h2 : Row intv w v l) : Calls Try.prog 32 #[u, v] w fun e w' => e = .returned (.bool true) ∧ Only [] w w' := by
  obtain ⟨a, cap, rfl, _, hmax, hc1⟩ := h1
  obtain ⟨b, cap2, rfl, _, _, hc2⟩ := h2
  have HC1 := Lib.hid hc1
  have HC2 := Lib.hid hc2
  clear hc1 hc2
  have hlm : l.length ≤ maxLen := by omega
  go_enter Try.func32, Try.ntmps32
  go_wp2
  go_loopw [5] (fun z wr => ∃ k : Nat, k ≤ l.length ∧ z = .int .i64 k ∧ Hid (Only [] w wr)) (fun z _ => l.length - (intOf z).toNat)
  case atStart => exact ⟨0, Nat.zero_le _, rfl, Lib.hid (Only.refl _ _)⟩
  case round =>
    obtain ⟨k, hk, rfl, HO⟩ := hrel
    by_cases hkl : k < l.length
    · have hkz : (k : Int) < (l.length : Int) := by omega
      obtain ⟨g, on, rfl, hg, hg1⟩ := HC1.out (by omega)
      obtain ⟨g2, on2, rfl, hg2, hg3⟩ := HC2.out (by omega)
      have x1 : wr.cell? ⟨g, on + k, none⟩ = some (iv l[k]) := (HO.out.cell (p := ⟨g, on + k, none⟩) hg (by simp)).trans (hg1 k hkl)
      have x2 : wr.cell? ⟨g2, on2 + k, none⟩ = some (iv l[k]) := (HO.out.cell (p := ⟨g2, on2 + k, none⟩) hg2 (by simp)).trans (hg3 k hkl)
      clear hg1 hg3 HC1 HC2
      have hwr : (k : Int) + 1 ≤ 9223372036854775807 := by unfold maxLen at hlm; omega
      go_wp2
      go_quiet (fail)
      go_wp2
      go_roundw
      case measure => simp [intOf]; omega
      case rel => exact ⟨k + 1, by omega, by go_num, Lib.hid (HO.out.drewN _)⟩
    · obtain rfl : k = l.length := by omega
      clear HC1 HC2
      go_wp2
      exact bodyPost_ret (results_tmp rfl _ _ _) rfl ⟨rfl, HO.out⟩
end Go.Proofs.Ytompelilflckkaa
/-
  Are two runs the same? The law's Eq, of one run told twice.
-/
namespace Go.Proofs.Ytompelilflckkaa
open Go.RowKit Go.Fl

theorem turns_at2 : ∀ (l : List (Nat × Nat)) (i : Nat) (h : i < l.length), (turns l)[i * 2 + 1]? = some (iv (l[i].2 : Int))
  | [], i, h => absurd h (Nat.not_lt_zero _)
  | p :: l, 0, _ => rfl
  | p :: l, i + 1, h => by
    have := turns_at2 l i (by simpa using h)
    simp only [List.getElem_cons_succ]
    rw [show (i + 1) * 2 + 1 = i * 2 + 1 + 1 + 1 by omega]
    exact this
theorem endsV_len (s : S) (k : Nat) : (endsV s k).length = k * 2 := by
  induction k with
  | zero => rfl
  | succ k ih => rw [endsV_succ, List.length_append, ih]; simp; omega
theorem ends_at2 (s : S) (k i : Nat) (h : i < k) : (endsV s k)[i * 2 + 1]? = some (iv (s.ts i).num) := by
  induction k with
  | zero => omega
  | succ k ih =>
    have hl := endsV_len s k
    rw [endsV_succ]
    by_cases e : i < k
    · rw [List.getElem?_append_left (by omega)]; exact ih e
    · obtain rfl : i = k := by omega
      rw [List.getElem?_append_right (by omega), hl, show i * 2 + 1 - i * 2 = 1 by omega]; rfl
/-- What Eq reads of one run. -/
structure RD (w : World) (s : S) (tr rg en qs : Value) : Prop where
  tr : ∃ a c, tr = .slice a s.trace.length c ∧ s.trace.length ≤ maxLen ∧ (0 < s.trace.length → ∃ g o, a = some ⟨g, o, none⟩ ∧ g < w.heap.size ∧ ∀ i (h : i < s.trace.length), w.cell? ⟨g, o + i * 2, none⟩ = some (iv (s.trace[i].1 : Int)) ∧ w.cell? ⟨g, o + i * 2 + 1, none⟩ = some (iv (s.trace[i].2 : Int)))
  rg : Row intv w rg ((List.range 8).map s.regs)
  en : ∃ a c, en = .slice a s.n c ∧ s.n ≤ maxLen ∧ (0 < s.n → ∃ g o, a = some ⟨g, o, none⟩ ∧ g < w.heap.size ∧ ∀ i, i < s.n → w.cell? ⟨g, o + i * 2, none⟩ = some (iv (how s (s.ts i))) ∧ w.cell? ⟨g, o + i * 2 + 1, none⟩ = some (iv (s.ts i).num))
  qs : ∃ g o c, qs = .slice (some ⟨g, o, none⟩) 4 c ∧ g < w.heap.size ∧ ∀ j, j < 4 → ∃ v, w.cell? ⟨g, o + j, none⟩ = some v ∧ Row intv w v (s.queues j)
theorem sl_max {w : World} {e size n : Nat} {v : Value} {xs : List Value} (h : Sl w e size v n xs) : n ≤ maxLen := by
  by_cases h0 : 0 < n
  · obtain ⟨_, _, _, _, _, hc, hm, _, _⟩ := h.form h0
    omega
  · unfold maxLen; omega
theorem RunV.rd {B : Nat} {w : World} {s : S} {v : Value} (h : RunV B w s v) : ∃ tr rg en qs, v = .agg #[iv s.trace.length, tr, rg, en, qs] ∧ RD w s tr rg en qs := by
  obtain ⟨tr, rg, en, qs, vs, hv, htr, hrg, hen, hqs, hq, _, _, _, _⟩ := h.it
  refine ⟨tr, rg, en, qs, hv, ?_, row_sl (by rw [List.map_map]; exact hrg) (by simp), ?_, ?_⟩
  · obtain ⟨a, c, ha, _, _⟩ := htr.shape
    refine ⟨a, c, ha, sl_max htr, fun h0 => ?_⟩
    obtain ⟨g, o, c', hr, hg, _, _, hc, _⟩ := htr.form h0
    rw [ha] at hr
    injection hr with h1 _ _
    exact ⟨g, o, h1, hg, fun i hi => ⟨(hc (i * 2) (by omega)).trans (turns_at _ i hi), by rw [Nat.add_assoc]; exact (hc (i * 2 + 1) (by omega)).trans (turns_at2 _ i hi)⟩⟩
  · obtain ⟨a, c, ha, _, _⟩ := hen.shape
    refine ⟨a, c, ha, sl_max hen, fun h0 => ?_⟩
    obtain ⟨g, o, c', hr, hg, _, _, hc, _⟩ := hen.form h0
    rw [ha] at hr
    injection hr with h1 _ _
    exact ⟨g, o, h1, hg, fun i hi => ⟨(hc (i * 2) (by omega)).trans (ends_at s _ i hi), by rw [Nat.add_assoc]; exact (hc (i * 2 + 1) (by omega)).trans (ends_at2 s _ i hi)⟩⟩
  · obtain ⟨g, o, c, hr, hg, _, _, hc, _⟩ := hqs.form (by omega)
    have hl := hqs.len
    refine ⟨g, o, c, hr, hg, fun j hj => ⟨vs[j]'(by omega), (hc j (by omega)).trans (List.getElem?_eq_getElem _), row_sl (hq j (by omega)).1 rfl⟩⟩
theorem RD.only {w w' : World} {s : S} {tr rg en qs : Value} (h : RD w s tr rg en qs) (ho : Only [] w w') : RD w' s tr rg en qs := by
  refine ⟨?_, h.rg.only ho, ?_, ?_⟩
  · obtain ⟨a, c, h1, h2, h3⟩ := h.tr
    refine ⟨a, c, h1, h2, fun h0 => ?_⟩
    obtain ⟨g, o, h4, hg, h5⟩ := h3 h0
    exact ⟨g, o, h4, Nat.lt_of_lt_of_le hg ho.size, fun i hi => ⟨(ho.cell (p := ⟨g, _, none⟩) hg (by simp)).trans (h5 i hi).1, (ho.cell (p := ⟨g, _, none⟩) hg (by simp)).trans (h5 i hi).2⟩⟩
  · obtain ⟨a, c, h1, h2, h3⟩ := h.en
    refine ⟨a, c, h1, h2, fun h0 => ?_⟩
    obtain ⟨g, o, h4, hg, h5⟩ := h3 h0
    exact ⟨g, o, h4, Nat.lt_of_lt_of_le hg ho.size, fun i hi => ⟨(ho.cell (p := ⟨g, _, none⟩) hg (by simp)).trans (h5 i hi).1, (ho.cell (p := ⟨g, _, none⟩) hg (by simp)).trans (h5 i hi).2⟩⟩
  · obtain ⟨g, o, c, h1, hg, h2⟩ := h.qs
    refine ⟨g, o, c, h1, Nat.lt_of_lt_of_le hg ho.size, fun j hj => ?_⟩
    obtain ⟨v, h3, h4⟩ := h2 j hj
    exact ⟨v, (ho.cell (p := ⟨g, _, none⟩) hg (by simp)).trans h3, h4.only ho⟩
end Go.Proofs.Ytompelilflckkaa
/-
  Are two runs the same? The walk of the law's Eq, of one run told twice.
-/
namespace Go.Proofs.Ytompelilflckkaa
open Go.RowKit Go.Fl

set_option maxRecDepth 100000 in
set_option maxHeartbeats 12800000 in
theorem eq_ok {w : World} {s : S} {tr rg en qs tr2 rg2 en2 qs2 : Value} (h1 : RD w s tr rg en qs) (h2 : RD w s tr2 rg2 en2 qs2) : Calls Try.prog 16 #[.agg #[iv s.trace.length, tr, rg, en, qs], .agg #[iv s.trace.length, tr2, rg2, en2, qs2]] w fun e w' => e = .returned (.bool true) ∧ Only [] w w' := by
  have H1 := Lib.hid h1
  have H2 := Lib.hid h2
  obtain ⟨a1, c1, rfl, hm, _⟩ := h1.tr
  obtain ⟨a2, c2, rfl, _, _⟩ := h2.tr
  obtain ⟨ra1, rc1, rfl, _, _⟩ := h1.rg
  obtain ⟨ra2, rc2, rfl, _, _⟩ := h2.rg
  obtain ⟨e1, k1, rfl, hnm, _⟩ := h1.en
  obtain ⟨e2, k2, rfl, _, _⟩ := h2.en
  obtain ⟨q1, p1, l1, rfl, _, _⟩ := h1.qs
  obtain ⟨q2, p2, l2, rfl, _, _⟩ := h2.qs
  clear h1 h2
  have HI := Lib.hid (show ∀ w', Only [] w w' → Calls Try.prog 32 #[.slice ra1 ((List.range 8).map s.regs).length rc1, .slice ra2 ((List.range 8).map s.regs).length rc2] w' fun e w2 => e = .returned (.bool true) ∧ Only [] w' w2 from fun w' ho => ints_ok (H1.out.rg.only ho) (H2.out.rg.only ho))
  have hl8 : ((List.range 8).map s.regs).length = 8 := by simp
  rw [hl8] at HI ⊢
  have hO1 : Only [] w ((w.alloc (.cells #[iv s.trace.length, .slice a1 s.trace.length c1, .slice ra1 8 rc1, .slice e1 s.n k1, .slice (some ⟨q1, p1, none⟩) 4 l1] 33)).alloc (.cells #[iv s.trace.length, .slice a2 s.trace.length c2, .slice ra2 8 rc2, .slice e2 s.n k2, .slice (some ⟨q2, p2, none⟩) 4 l2] 33)) := ((Only.refl [] w).alloc _).alloc _
  have hb1 : Blk ((w.alloc (.cells #[iv s.trace.length, .slice a1 s.trace.length c1, .slice ra1 8 rc1, .slice e1 s.n k1, .slice (some ⟨q1, p1, none⟩) 4 l1] 33)).alloc (.cells #[iv s.trace.length, .slice a2 s.trace.length c2, .slice ra2 8 rc2, .slice e2 s.n k2, .slice (some ⟨q2, p2, none⟩) 4 l2] 33)) w.heap.size 33 #[iv s.trace.length, .slice a1 s.trace.length c1, .slice ra1 8 rc1, .slice e1 s.n k1, .slice (some ⟨q1, p1, none⟩) 4 l1] := (Blk.new _ _ _).alloc _
  have hb2 : Blk ((w.alloc (.cells #[iv s.trace.length, .slice a1 s.trace.length c1, .slice ra1 8 rc1, .slice e1 s.n k1, .slice (some ⟨q1, p1, none⟩) 4 l1] 33)).alloc (.cells #[iv s.trace.length, .slice a2 s.trace.length c2, .slice ra2 8 rc2, .slice e2 s.n k2, .slice (some ⟨q2, p2, none⟩) 4 l2] 33)) (w.heap.size + 1) 33 #[iv s.trace.length, .slice a2 s.trace.length c2, .slice ra2 8 rc2, .slice e2 s.n k2, .slice (some ⟨q2, p2, none⟩) 4 l2] := by
    have := Blk.new (w.alloc (.cells #[iv s.trace.length, .slice a1 s.trace.length c1, .slice ra1 8 rc1, .slice e1 s.n k1, .slice (some ⟨q1, p1, none⟩) 4 l1] 33)) 33 #[iv s.trace.length, .slice a2 s.trace.length c2, .slice ra2 8 rc2, .slice e2 s.n k2, .slice (some ⟨q2, p2, none⟩) 4 l2]
    simpa using this
  have HB1 := Lib.hid hb1
  have HB2 := Lib.hid hb2
  have HO1 := Lib.hid hO1
  have HIW := Lib.hid (HI.out _ hO1)
  clear hb1 hb2 hO1 hl8
  go_enter Try.func16, Try.ntmps16
  go_wp2_with fail
  refine HIW.out.mono ?_
  clear HIW
  rintro e w1 ⟨rfl, hO2⟩
  have HO := Lib.hid (HO1.out.trans hO2)
  have HC1 := Lib.hid (HB1.out.only hO2 (by simp))
  have HC2 := Lib.hid (HB2.out.only hO2 (by simp))
  clear HB1 HB2 HO1 hO2
  go_wp2
  go_loopw [5] (fun z wr => ∃ k : Nat, k ≤ s.trace.length ∧ z = .int .i64 k ∧ Hid (Only [] w1 wr)) (fun z _ => s.trace.length - (intOf z).toNat)
  case atStart => exact ⟨0, Nat.zero_le _, rfl, Lib.hid (Only.refl _ _)⟩
  case round =>
    obtain ⟨w2, hwo⟩ : ∃ x : World, x = wr := ⟨_, rfl⟩
    subst hwo
    obtain ⟨k, hk, rfl, HO2⟩ := hrel
    obtain ⟨m1, _, l1'⟩ := (HC1.out.only HO2.out (by simp)).facts
    obtain ⟨m2, _, l2'⟩ := (HC2.out.only HO2.out (by simp)).facts
    by_cases hkl : k < s.trace.length
    · have hkz : (k : Int) < (s.trace.length : Int) := by omega
      obtain ⟨a, c, ha, _, ht1⟩ := H1.out.tr
      obtain ⟨g1, o1, hg, hgl1, hx1⟩ := ht1 (by omega)
      injection ha with ha _ hac
      subst ha
      subst hac
      subst hg
      obtain ⟨a, c, ha, _, ht2⟩ := H2.out.tr
      obtain ⟨g2, o2, hg, hgl2, hx2⟩ := ht2 (by omega)
      injection ha with ha _ hac
      subst ha
      subst hac
      subst hg
      have x1 : w2.cell? ⟨g1, o1 + k * 2, none⟩ = some (iv (s.trace[k].1 : Int)) := ((HO.out.trans HO2.out).cell (p := ⟨g1, o1 + k * 2, none⟩) hgl1 (by simp)).trans (hx1 k hkl).1
      have x2 : w2.cell? ⟨g1, o1 + k * 2 + 1, none⟩ = some (iv (s.trace[k].2 : Int)) := ((HO.out.trans HO2.out).cell (p := ⟨g1, o1 + k * 2 + 1, none⟩) hgl1 (by simp)).trans (hx1 k hkl).2
      have y1 : w2.cell? ⟨g2, o2 + k * 2, none⟩ = some (iv (s.trace[k].1 : Int)) := ((HO.out.trans HO2.out).cell (p := ⟨g2, o2 + k * 2, none⟩) hgl2 (by simp)).trans (hx2 k hkl).1
      have y2 : w2.cell? ⟨g2, o2 + k * 2 + 1, none⟩ = some (iv (s.trace[k].2 : Int)) := ((HO.out.trans HO2.out).cell (p := ⟨g2, o2 + k * 2 + 1, none⟩) hgl2 (by simp)).trans (hx2 k hkl).2
      have hmk : (k : Int) + 1 ≤ 9223372036854775807 := by unfold maxLen at hm; omega
      clear hx1 hx2 ht1 ht2 H1 H2 HC1 HC2 HI
      generalize (s.trace[k].1 : Int) = u1 at x1 y1
      generalize (s.trace[k].2 : Int) = u2 at x2 y2
      go_wp2
      go_quiet (fail)
      go_wp2
      go_roundw
      case measure => simp [intOf]; omega
      case rel => exact ⟨k + 1, by omega, by go_num, Lib.hid (HO2.out.drewN _)⟩
    · obtain rfl : k = s.trace.length := by omega
      go_wp2
      go_loopw [6] (fun z wr => ∃ k : Nat, k ≤ s.n ∧ z = .int .i64 k ∧ Hid (Only [] w2 wr)) (fun z _ => s.n - (intOf z).toNat)
      case atStart => exact ⟨0, Nat.zero_le _, rfl, Lib.hid (Only.refl _ _)⟩
      case round =>
        obtain ⟨w3, hwo⟩ : ∃ x : World, x = wr := ⟨_, rfl⟩
        subst hwo
        obtain ⟨k, hk, rfl, HO3⟩ := hrel
        clear m1 m2 l1' l2'
        have HO4 := Lib.hid (HO2.out.trans HO3.out)
        obtain ⟨m1, _, l1'⟩ := (HC1.out.only HO4.out (by simp)).facts
        obtain ⟨m2, _, l2'⟩ := (HC2.out.only HO4.out (by simp)).facts
        by_cases hkl : k < s.n
        · have hkz : (k : Int) < (s.n : Int) := by omega
          obtain ⟨a, c, ha, _, ht1⟩ := H1.out.en
          obtain ⟨g1, o1, hg, hgl1, hx1⟩ := ht1 (by omega)
          injection ha with ha _ hac
          subst ha
          subst hac
          subst hg
          obtain ⟨a, c, ha, _, ht2⟩ := H2.out.en
          obtain ⟨g2, o2, hg, hgl2, hx2⟩ := ht2 (by omega)
          injection ha with ha _ hac
          subst ha
          subst hac
          subst hg
          have x1 : w3.cell? ⟨g1, o1 + k * 2, none⟩ = some (iv (how s (s.ts k))) := ((HO.out.trans HO4.out).cell (p := ⟨g1, o1 + k * 2, none⟩) hgl1 (by simp)).trans (hx1 k hkl).1
          have x2 : w3.cell? ⟨g1, o1 + k * 2 + 1, none⟩ = some (iv (s.ts k).num) := ((HO.out.trans HO4.out).cell (p := ⟨g1, o1 + k * 2 + 1, none⟩) hgl1 (by simp)).trans (hx1 k hkl).2
          have y1 : w3.cell? ⟨g2, o2 + k * 2, none⟩ = some (iv (how s (s.ts k))) := ((HO.out.trans HO4.out).cell (p := ⟨g2, o2 + k * 2, none⟩) hgl2 (by simp)).trans (hx2 k hkl).1
          have y2 : w3.cell? ⟨g2, o2 + k * 2 + 1, none⟩ = some (iv (s.ts k).num) := ((HO.out.trans HO4.out).cell (p := ⟨g2, o2 + k * 2 + 1, none⟩) hgl2 (by simp)).trans (hx2 k hkl).2
          have hmk : (k : Int) + 1 ≤ 9223372036854775807 := by unfold maxLen at hnm; omega
          clear hx1 hx2 ht1 ht2 H1 H2 HC1 HC2 HI
          generalize how s (s.ts k) = v1 at x1 y1
          generalize (s.ts k).num = v2 at x2 y2
          go_wp2
          go_quiet (fail)
          go_wp2
          go_roundw
          case measure => simp [intOf]; omega
          case rel => exact ⟨k + 1, by omega, by go_num, Lib.hid (HO3.out.drewN _)⟩
        · obtain rfl : k = s.n := by omega
          go_wp2
          go_loopw [7] (fun z wr => ∃ k : Nat, k ≤ 4 ∧ z = .int .i64 k ∧ Hid (Only [] w3 wr)) (fun z _ => 4 - (intOf z).toNat)
          case atStart => exact ⟨0, Nat.zero_le _, rfl, Lib.hid (Only.refl _ _)⟩
          case round =>
            obtain ⟨w4, hwo⟩ : ∃ x : World, x = wr := ⟨_, rfl⟩
            subst hwo
            obtain ⟨k, hk, rfl, HO5⟩ := hrel
            clear m1 m2 l1' l2'
            have HO6 := Lib.hid (HO4.out.trans HO5.out)
            have HO7 := Lib.hid (HO.out.trans HO6.out)
            obtain ⟨m1, _, l1'⟩ := (HC1.out.only HO6.out (by simp)).facts
            obtain ⟨m2, _, l2'⟩ := (HC2.out.only HO6.out (by simp)).facts
            by_cases hkl : k < 4
            · have hkz : (k : Int) < 4 := by omega
              obtain ⟨g1, o1, c, ha, hgl1, hx1⟩ := H1.out.qs
              injection ha with ha _ hac
              injection ha with ha
              injection ha with ha1 ha2 _
              subst ha1
              subst ha2
              subst hac
              obtain ⟨g2, o2, c, ha, hgl2, hx2⟩ := H2.out.qs
              injection ha with ha _ hac
              injection ha with ha
              injection ha with ha1 ha2 _
              subst ha1
              subst ha2
              subst hac
              obtain ⟨v1, hv1, hr1⟩ := hx1 k hkl
              obtain ⟨v2, hv2, hr2⟩ := hx2 k hkl
              have x1 := (HO7.out.cell (p := ⟨q1, p1 + k, none⟩) hgl1 (by simp)).trans hv1
              have x2 := (HO7.out.cell (p := ⟨q2, p2 + k, none⟩) hgl2 (by simp)).trans hv2
              have HN := Lib.hid (show ∀ w', Only [] w4 w' → Calls Try.prog 32 #[v1, v2] w' fun e w2 => e = .returned (.bool true) ∧ Only [] w' w2 from fun w' ho => ints_ok (hr1.only (HO7.out.trans ho)) (hr2.only (HO7.out.trans ho)))
              clear hx1 hx2 hv1 hv2 hr1 hr2 H1 H2 HC1 HC2 HI
              go_wp2
              refine Lex.wp_region_text (by kernel_rfl) (by kernel_rfl) ?_
              go_wp2_with fail
              refine (HN.out _ ((Only.refl _ _).drew)).mono ?_
              clear HN
              rintro e w5 ⟨rfl, hO8⟩
              have HO8 := Lib.hid ((Only.refl [] w4).drew.trans hO8)
              clear hO8
              go_wp2
              refine Lex.sq_done (by rfl) ?_
              go_wp2
              go_roundw
              case measure => simp [intOf]; omega
              case rel => exact ⟨k + 1, by omega, by go_num, Lib.hid (HO5.out.trans HO8.out)⟩
            · obtain rfl : k = 4 := by omega
              go_wp2
              exact bodyPost_ret (results_tmp rfl _ _ _) rfl ⟨rfl, HO7.out⟩
end Go.Proofs.Ytompelilflckkaa
/-
  SchedSplit: helpers of its walk.
-/
namespace Go.Proofs.Ytompelilflckkaa
open Go.RowKit Go.Fl

theorem asked_of2 {acts : List (List A)} {room m m' : Int} {ps qs : List Int} (h : askedM acts room ps m = 0) (h0 : 0 ≤ m') (h1 : m' ≤ 65536) (h2 : qs.length ≤ 65536) (h3 : ∀ k ∈ qs, 0 ≤ k) : askedM acts room qs m' = 0 := by
  obtain ⟨q1, q2, q3, q4, q5, q6, q7, q8, q9, q10⟩ := asked_zero h
  have hm : mayM acts = 0 := by
    unfold askedM at h
    by_cases e : mayM acts ≠ 0
    · rw [if_pos e] at h; exact absurd h e
    · omega
  have hp : qs.any (fun k => decide (k < 0)) = false := by
    rw [Bool.eq_false_iff]
    intro ht
    obtain ⟨l, hl1, h2⟩ := List.any_eq_true.1 ht
    have := h3 l hl1
    simp at h2
    omega
  unfold askedM
  rw [hm, hp, if_neg (by omega), if_neg (by omega), if_neg (by decide)]
theorem row_take {α : Type} {f : α → Value} {w : World} {a : Option Addr} {c : Nat} {l : List α} (h : Row f w (.slice a l.length c) l) {i : Nat} (hi : i ≤ l.length) : Row f w (.slice a i c) (l.take i) := by
  obtain ⟨a', c', e, h1, h2, h3⟩ := h
  injection e with e1 _ e3
  subst e1
  subst e3
  have hl : (l.take i).length = i := by rw [List.length_take]; omega
  refine ⟨a, c, by rw [hl], by omega, h2, fun h0 => ?_⟩
  obtain ⟨g, off, rfl, hg, hh⟩ := h3 (by omega)
  refine ⟨g, off, rfl, hg, fun j hj => ?_⟩
  rw [hl] at hj
  rw [hh j (by omega), List.getElem_take]
/-- The slices' shapes. -/
theorem RD.shapes {w : World} {s : S} {tr rg en qs : Value} (h : RD w s tr rg en qs) : (∃ a c, tr = .slice a s.trace.length c) ∧ (∃ a c, rg = .slice a 8 c) ∧ (∃ a c, en = .slice a s.n c) ∧ ∃ a c, qs = .slice a 4 c := by
  obtain ⟨a1, c1, h1, _, _⟩ := h.tr
  obtain ⟨a2, c2, h2, _, _⟩ := h.rg
  obtain ⟨a3, c3, h3, _, _⟩ := h.en
  obtain ⟨g4, o4, c4, h4, _, _⟩ := h.qs
  exact ⟨⟨_, _, h1⟩, ⟨a2, c2, by rw [h2]; simp⟩, ⟨_, _, h3⟩, ⟨_, _, h4⟩⟩
/-- A run's result in its block: what is read of it. -/
structure RB (w : World) (s : S) (g : Nat) : Prop where
  it : ∃ tr rg en qs, Blk w g 33 #[iv s.trace.length, tr, rg, en, qs] ∧ RD w s tr rg en qs
theorem RB.only {w w' : World} {s : S} {g : Nat} (h : RB w s g) (ho : Only [] w w') : RB w' s g := by
  obtain ⟨tr, rg, en, qs, h1, h2⟩ := h.it
  exact ⟨tr, rg, en, qs, h1.only ho (by simp), h2.only ho⟩
end Go.Proofs.Ytompelilflckkaa
