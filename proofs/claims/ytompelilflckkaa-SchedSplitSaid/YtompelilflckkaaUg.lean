/-
  The law's begun: it answers true.
-/
import Derived.Test.YtompelilflckkaaUf
namespace Go.Proofs.Ytompelilflckkaa
open Go.RowKit Go.Fl

set_option maxRecDepth 100000 in
set_option maxHeartbeats 3200000 in
theorem begun_ok (w : World) : Calls Try.prog 9 #[] w fun e w' => e = .returned (.bool true) ∧ Only [] w w' := by
  have hO3 : Only [] w (((w.alloc (.cells #[iv 13, iv 0, iv 0, iv 2, iv 12, iv 0, iv 0, iv 9, iv 8, iv 0, iv 0, iv 1] 47)).alloc (.cells #[iv 7, iv 0, iv 0, iv 0] 47)).alloc (.cells #[.slice (some ⟨w.heap.size, 0, none⟩) 3 3, .slice (some ⟨w.heap.size + 1, 0, none⟩) 1 1] 45)) := (((Only.refl [] w).alloc _).alloc _).alloc _
  have b0 : Blk (((w.alloc (.cells #[iv 13, iv 0, iv 0, iv 2, iv 12, iv 0, iv 0, iv 9, iv 8, iv 0, iv 0, iv 1] 47)).alloc (.cells #[iv 7, iv 0, iv 0, iv 0] 47)).alloc (.cells #[.slice (some ⟨w.heap.size, 0, none⟩) 3 3, .slice (some ⟨w.heap.size + 1, 0, none⟩) 1 1] 45)) w.heap.size 47 #[iv 13, iv 0, iv 0, iv 2, iv 12, iv 0, iv 0, iv 9, iv 8, iv 0, iv 0, iv 1] := ((Blk.new _ _ _).alloc _).alloc _
  have b1 : Blk (((w.alloc (.cells #[iv 13, iv 0, iv 0, iv 2, iv 12, iv 0, iv 0, iv 9, iv 8, iv 0, iv 0, iv 1] 47)).alloc (.cells #[iv 7, iv 0, iv 0, iv 0] 47)).alloc (.cells #[.slice (some ⟨w.heap.size, 0, none⟩) 3 3, .slice (some ⟨w.heap.size + 1, 0, none⟩) 1 1] 45)) (w.heap.size + 1) 47 #[iv 7, iv 0, iv 0, iv 0] := by
    have := (Blk.new (w.alloc (.cells #[iv 13, iv 0, iv 0, iv 2, iv 12, iv 0, iv 0, iv 9, iv 8, iv 0, iv 0, iv 1] 47)) 47 #[iv 7, iv 0, iv 0, iv 0]).alloc (.cells #[.slice (some ⟨w.heap.size, 0, none⟩) 3 3, .slice (some ⟨w.heap.size + 1, 0, none⟩) 1 1] 45)
    simpa using this
  have b2 : Blk (((w.alloc (.cells #[iv 13, iv 0, iv 0, iv 2, iv 12, iv 0, iv 0, iv 9, iv 8, iv 0, iv 0, iv 1] 47)).alloc (.cells #[iv 7, iv 0, iv 0, iv 0] 47)).alloc (.cells #[.slice (some ⟨w.heap.size, 0, none⟩) 3 3, .slice (some ⟨w.heap.size + 1, 0, none⟩) 1 1] 45)) (w.heap.size + 1 + 1) 45 #[.slice (some ⟨w.heap.size, 0, none⟩) 3 3, .slice (some ⟨w.heap.size + 1, 0, none⟩) 1 1] := by
    have := Blk.new ((w.alloc (.cells #[iv 13, iv 0, iv 0, iv 2, iv 12, iv 0, iv 0, iv 9, iv 8, iv 0, iv 0, iv 1] 47)).alloc (.cells #[iv 7, iv 0, iv 0, iv 0] 47)) 45 #[.slice (some ⟨w.heap.size, 0, none⟩) 3 3, .slice (some ⟨w.heap.size + 1, 0, none⟩) 1 1]
    simpa using this
  go_enter Try.func9, Try.ntmps9
  go_wp2_with fail
  generalize ((w.alloc (.cells #[.int .i64 13, .int .i64 0, .int .i64 0, .int .i64 2, .int .i64 12, .int .i64 0, .int .i64 0, .int .i64 9, .int .i64 8, .int .i64 0, .int .i64 0, .int .i64 1] 47)).alloc (.cells #[.int .i64 7, .int .i64 0, .int .i64 0, .int .i64 0] 47)).alloc (.cells #[.slice (some ⟨w.heap.size, 0, none⟩) 3 3, .slice (some ⟨w.heap.size + 1, 0, none⟩) 1 1] 45) = w3 at *
  have HT := Lib.hid (show TasksV w3.heap.size w3 (.slice (some ⟨w.heap.size + 1 + 1, 0, none⟩) 2 2) actsB from ⟨_, _, rfl, Nat.le_refl _, by decide, fun _ => ⟨_, 0, rfl, b2.lt, b2.lt, fun i hi => by
    match i, hi with
    | 0, _ => exact ⟨_, b2.cell _, acts_of (l := [⟨13, 0, 0, 2⟩, ⟨12, 0, 0, 9⟩, ⟨8, 0, 0, 1⟩]) b0 b0.lt rfl (by decide)⟩
    | 1, _ => exact ⟨_, b2.cell _, acts_of (l := [⟨7, 0, 0, 0⟩]) b1 b1.lt rfl (by decide)⟩⟩⟩)
  have HR := Lib.hid (run_ok 1 99 HT.out (row_nil intv w3) (fun g hg => by simp [Value.ownBlock] at hg) asked_B)
  refine HR.out.mono ?_
  clear HR HT
  rintro e w4 ⟨v, rfl, hV, hB⟩
  have hV : RunV w3.heap.size w4 sB v := hV
  obtain ⟨tr, rg, en, qs, vs, hv, htr, hrg, hen, hqs, _, _, _, _, _⟩ := hV.it
  rw [sB_trace] at hv htr
  rw [sB_n] at hen
  obtain ⟨xa, xc, hx, _, _⟩ := htr.shape
  obtain ⟨ya, yc, hy, _, _⟩ := hqs.shape
  obtain ⟨g1, o1, k1, hr1, hg1, _, _, hc1, _⟩ := hrg.form (by omega)
  obtain ⟨g2, o2, k2, hr2, hg2, _, _, hc2, _⟩ := hen.form (by omega)
  have d7 : w4.cell? ⟨g1, o1 + 7, none⟩ = some (iv 9) := (hc1 7 (by omega)).trans (by show some (iv (sB.regs 7)) = _; rw [sB_7])
  have d0 : w4.cell? ⟨g1, o1, none⟩ = some (iv 1) := (hc1 0 (by omega)).trans (by show some (iv (sB.regs 0)) = _; rw [sB_0])
  have f0 : w4.cell? ⟨g2, o2, none⟩ = some (iv 1) := (hc2 0 (by omega)).trans (by show some (iv (how sB (sB.ts 0))) = _; rw [sB_how0])
  have f2 : w4.cell? ⟨g2, o2 + 2, none⟩ = some (iv 7) := (hc2 2 (by omega)).trans (by show some (iv (how sB (sB.ts 1))) = _; rw [sB_how1])
  subst hx hy hr1 hr2
  subst hv
  have HO4 : Hid (Below w.heap.size w w4) := Lib.hid ((Below.of_only hO3 (Nat.le_refl _)).trans ⟨hB.os, hB.tape, hB.output, hB.size, fun i hi => hB.block i (Nat.lt_of_lt_of_le hi hO3.size)⟩)
  clear hc1 hc2 htr hrg hen hqs hV hB b0 b1 b2 hO3
  have b0 : Blk (((w4.alloc (.cells #[.int .i64 3, .slice xa 3 xc, .slice (some ⟨g1, o1, none⟩) 8 k1, .slice (some ⟨g2, o2, none⟩) 2 k2, .slice ya 4 yc] 33)).alloc (.cells #[.int .i64 11, .int .i64 0, .int .i64 0, .int .i64 0] 47)).alloc (.cells #[.slice (some ⟨w4.heap.size + 1, 0, none⟩) 1 1] 45)) w4.heap.size 33 #[.int .i64 3, .slice xa 3 xc, .slice (some ⟨g1, o1, none⟩) 8 k1, .slice (some ⟨g2, o2, none⟩) 2 k2, .slice ya 4 yc] := ((Blk.new _ _ _).alloc _).alloc _
  have b1 : Blk (((w4.alloc (.cells #[.int .i64 3, .slice xa 3 xc, .slice (some ⟨g1, o1, none⟩) 8 k1, .slice (some ⟨g2, o2, none⟩) 2 k2, .slice ya 4 yc] 33)).alloc (.cells #[.int .i64 11, .int .i64 0, .int .i64 0, .int .i64 0] 47)).alloc (.cells #[.slice (some ⟨w4.heap.size + 1, 0, none⟩) 1 1] 45)) (w4.heap.size + 1) 47 #[.int .i64 11, .int .i64 0, .int .i64 0, .int .i64 0] := by
    have := (Blk.new (w4.alloc (.cells #[.int .i64 3, .slice xa 3 xc, .slice (some ⟨g1, o1, none⟩) 8 k1, .slice (some ⟨g2, o2, none⟩) 2 k2, .slice ya 4 yc] 33)) 47 #[.int .i64 11, .int .i64 0, .int .i64 0, .int .i64 0]).alloc (.cells #[.slice (some ⟨w4.heap.size + 1, 0, none⟩) 1 1] 45)
    simpa using this
  have b2 : Blk (((w4.alloc (.cells #[.int .i64 3, .slice xa 3 xc, .slice (some ⟨g1, o1, none⟩) 8 k1, .slice (some ⟨g2, o2, none⟩) 2 k2, .slice ya 4 yc] 33)).alloc (.cells #[.int .i64 11, .int .i64 0, .int .i64 0, .int .i64 0] 47)).alloc (.cells #[.slice (some ⟨w4.heap.size + 1, 0, none⟩) 1 1] 45)) (w4.heap.size + 1 + 1) 45 #[.slice (some ⟨w4.heap.size + 1, 0, none⟩) 1 1] := by
    have := Blk.new ((w4.alloc (.cells #[.int .i64 3, .slice xa 3 xc, .slice (some ⟨g1, o1, none⟩) 8 k1, .slice (some ⟨g2, o2, none⟩) 2 k2, .slice ya 4 yc] 33)).alloc (.cells #[.int .i64 11, .int .i64 0, .int .i64 0, .int .i64 0] 47)) 45 #[.slice (some ⟨w4.heap.size + 1, 0, none⟩) 1 1]
    simpa using this
  have hO6 : Only [] w4 (((w4.alloc (.cells #[.int .i64 3, .slice xa 3 xc, .slice (some ⟨g1, o1, none⟩) 8 k1, .slice (some ⟨g2, o2, none⟩) 2 k2, .slice ya 4 yc] 33)).alloc (.cells #[.int .i64 11, .int .i64 0, .int .i64 0, .int .i64 0] 47)).alloc (.cells #[.slice (some ⟨w4.heap.size + 1, 0, none⟩) 1 1] 45)) := (((Only.refl [] w4).alloc _).alloc _).alloc _
  go_wp2_with fail
  generalize ((w4.alloc (.cells #[.int .i64 3, .slice xa 3 xc, .slice (some ⟨g1, o1, none⟩) 8 k1, .slice (some ⟨g2, o2, none⟩) 2 k2, .slice ya 4 yc] 33)).alloc (.cells #[.int .i64 11, .int .i64 0, .int .i64 0, .int .i64 0] 47)).alloc (.cells #[.slice (some ⟨w4.heap.size + 1, 0, none⟩) 1 1] 45) = w6 at *
  have HT := Lib.hid (show TasksV w6.heap.size w6 (.slice (some ⟨w4.heap.size + 1 + 1, 0, none⟩) 1 1) actsC from ⟨_, _, rfl, Nat.le_refl _, by decide, fun _ => ⟨_, 0, rfl, b2.lt, b2.lt, fun i hi => by
    match i, hi with
    | 0, _ => exact ⟨_, b2.cell _, acts_of (l := [⟨11, 0, 0, 0⟩]) b1 b1.lt rfl (by decide)⟩⟩⟩)
  have HR := Lib.hid (ready_run 1 HT.out (row_nil intv w6) (fun g hg => by simp [Value.ownBlock] at hg) asked_C)
  refine HR.out.mono ?_
  clear HR HT
  rintro e w7 ⟨u, rfl, hS, hF, hB⟩
  have hS : Sl w7 3 1 u (ready (all [] 0 (begin_ actsC 1))).length (nats (ready (all [] 0 (begin_ actsC 1)))) := hS
  rw [ready_C] at hS
  obtain ⟨ua, uc, hu, _, _⟩ := hS.shape
  subst hu
  have hk : ∀ g i v, g < w4.heap.size → w4.cell? ⟨g, i, none⟩ = some v → w7.cell? ⟨g, i, none⟩ = some v := fun g i v hg hc => by
    rw [World.cell?_of_block (w := w6) (w' := w7) (a := ⟨g, i, none⟩) (hB.block g (Nat.lt_of_lt_of_le hg hO6.size)), hO6.cell (p := ⟨g, i, none⟩) hg (by simp)]
    exact hc
  have d7 := hk _ _ _ hg1 d7
  have d0 := hk _ _ _ hg1 d0
  have f0 := hk _ _ _ hg2 f0
  have f2 := hk _ _ _ hg2 f2
  have hb7 : Blk w7 w4.heap.size 33 #[.int .i64 3, .slice xa 3 xc, .slice (some ⟨g1, o1, none⟩) 8 k1, .slice (some ⟨g2, o2, none⟩) 2 k2, .slice ya 4 yc] := (hB.block _ b0.lt).trans b0
  obtain ⟨hcb, _, hlb⟩ := hb7.facts
  have HO7 := Lib.hid ((HO4.out.trans (Below.of_only hO6 HO4.out.size)).trans ⟨hB.os, hB.tape, hB.output, hB.size, fun i hi => hB.block i (Nat.lt_of_lt_of_le hi (Nat.le_trans HO4.out.size hO6.size))⟩)
  have HMY := Lib.hid (may_ok (base := 0) (w := w7) (tv := .slice none 0 0) (acts := []) ⟨none, 0, rfl, Nat.le_refl _, by simp, fun h => absurd h (Nat.not_lt_zero _)⟩ (Nat.zero_le _))
  rw [may_nil] at HMY
  clear hS hF hB hk hb7 b0 b1 b2 hO6
  go_wp2_with fail
  refine HMY.out.mono ?_
  clear HMY
  rintro e w8 ⟨rfl, hO8⟩
  have HO8 := Lib.hid (HO7.out.trans (Below.of_only hO8 HO7.out.size))
  clear hO8
  go_wp2
  exact bodyPost_ret (results_tmp rfl _ _ _) rfl ⟨rfl, Only.of_below HO8.out _⟩
end Go.Proofs.Ytompelilflckkaa
