/-
  The scheduler's Run: up to its result's struct.
-/
import Derived.Test.YtompelilflckkaaMq
set_option linter.unusedSimpArgs false
set_option linter.unusedVariables false
namespace Go.Proofs.Ytompelilflckkaa
open Go.RowKit Go.Fl

def regsV (s : S) : List Value := (List.range 8).map fun k => iv (s.regs k)
theorem RS.cRegs {w : World} {base r : Nat} {f : Nat → Value} {b : Nat → Nat} {s : S} (h : RS w base r f b s) : ∀ j u, (regsV s)[j]? = some u → w.cell? ((⟨r, 14, none⟩ : Addr).add j) = some u := fun j u hu => by
  unfold regsV at hu
  rw [List.getElem?_map] at hu
  by_cases hj : j < 8
  · rw [List.getElem?_range hj] at hu
    injection hu with hu
    subst hu
    rw [Addr.add_lit]
    exact h.cReg hj
  · rw [List.getElem?_eq_none (by simp; omega)] at hu; cases hu

/-- What stands behind the result's first statement. -/
def RunMid (tv pv : Value) (room : Int) (m r g8 n tc : Nat) (ta : Option Addr) (regs : List Value) (w3 : World) (e : Exit) (a : Act) (w' : World) : Prop :=
  ∃ gq rga rgc, e = .normal ∧ (∃ rg, rg = .slice rga 8 rgc ∧ a = { tmps := #[tv, iv room, pv, iv m, undef, undef, undef, undef, .pointer (some ⟨g8, 0, none⟩), iv 0, iv 0, .pointer (some ⟨r, 0, none⟩), .pointer (some ⟨gq, 0, none⟩), undef, undef, undef, undef, tv, iv room, pv, iv m, iv 0, iv 0, .bool false, undef, undef, tv, iv room, .pointer (some ⟨r, 0, none⟩), .pointer (some ⟨r, 0, none⟩), pv, iv m, .tuple #[], .pointer (some ⟨r, 0, none⟩), .pointer (some ⟨r, 0, none⟩), .pointer (some ⟨r, 23, none⟩), .slice ta n tc, iv n, .pointer (some ⟨r, 0, none⟩), .pointer (some ⟨r, 0, none⟩), .pointer (some ⟨r, 23, none⟩), .slice ta n tc, .pointer (some ⟨r, 0, none⟩), .pointer (some ⟨r, 0, none⟩), .pointer (some ⟨r, 14, none⟩), .slice (some ⟨r, 14, none⟩) 8 8, rg, .agg #[iv n, .slice ta n tc, rg, .slice none 0 0, .slice none 0 0], undef, undef, undef, undef, undef, undef, undef, undef, undef, undef, undef, undef, undef, undef, undef, undef, undef, undef, undef, undef, undef, undef, undef, undef, undef, undef, undef, undef, undef, undef, undef, undef, undef, undef, undef, undef, undef, undef, undef], defers := [] } ∧
    Only [] w3 w' ∧ Blk w' gq 33 #[iv n, .slice ta n tc, rg, .slice none 0 0, .slice none 0 0] ∧ w3.heap.size ≤ gq ∧ Sl w' 2 1 rg 8 regs ∧ (∀ g, rg.ownBlock = some g → w3.heap.size ≤ g))
theorem only_grown {w3 W w4 : World} {row : Option Nat} (h : Only [] w3 W) (hg : W.grownBy w4 row) (hr : row = none) : Only [] w3 w4 := h.grown hg fun k hk => by rw [hr] at hk; cases hk
theorem info29 : (Try.prog.info? 29).map (fun i => (i.zero, i.size, i.bytes)) = some (some (.slice none 0 0), 1, 24) := by kernel_rfl
/-- The queues' copies, so far. -/
structure QS (w3 wr : World) (gq : Nat) (s : S) (n tc : Nat) (ta : Option Addr) (rg : Value) (k : Nat) (qs : Value) (vs : List Value) : Prop where
  O : Only [] w3 wr
  B : Blk wr gq 33 #[iv n, .slice ta n tc, rg, .slice none 0 0, qs]
  Q : Sl wr 29 1 qs k vs
  qf : ∀ g, qs.ownBlock = some g → w3.heap.size ≤ g
  E : ∀ j (h : j < vs.length), Sl wr 2 1 vs[j] (s.queues j).length (ints (s.queues j)) ∧ ∀ g, vs[j].ownBlock = some g → w3.heap.size ≤ g
  R : Sl wr 2 1 rg 8 (regsV s)
  rf : ∀ g, rg.ownBlock = some g → w3.heap.size ≤ g
  gq : w3.heap.size ≤ gq
theorem sl_typed {w w' : World} {e : TypeId} {size n : Nat} {v : Value} {xs : List Value} {T : List Nat} (h : Sl w e size v n xs) (ho : Only T w w') (hT : ∀ g ∈ T, ∃ (t : TypeId) (cs : Array Value), Blk w g t cs ∧ t ≠ e) : Sl w' e size v n xs :=
  h.only ho fun g hg hm => by
    obtain ⟨t, cs, hb, hne⟩ := hT g hm
    obtain ⟨cur, hb2⟩ := h.ty hg
    exact hne (hb.ty_eq hb2)
section
variable {w3 w6 w7 : World} {gq : Nat} {s : S} {n tc : Nat} {ta : Option Addr} {rg qs : Value} {k : Nat} {vs : List Value}
theorem QS.only0 (h : QS w3 w6 gq s n tc ta rg k qs vs) (ho : Only [] w6 w7) : QS w3 w7 gq s n tc ta rg k qs vs :=
  ⟨h.O.trans ho, h.B.only ho (by simp), h.Q.only ho (by simp), h.qf, fun j hj => ⟨(h.E j hj).1.only ho (by simp), (h.E j hj).2⟩, h.R.only ho (by simp), h.rf, h.gq⟩
theorem QS.push (h : QS w3 w6 gq s n tc ta rg k qs vs) {v6 v7 : Value} (hv : Sl w6 2 1 v6 (s.queues k).length (ints (s.queues k))) (hvf : ∀ g, v6.ownBlock = some g → w3.heap.size ≤ g) (hS : Sl w7 29 1 v7 (k + 1) (vs ++ [v6]))
    (hg : w6.grownBy w7 qs.ownBlock) (hown : ∀ g, v7.ownBlock = some g → w3.heap.size ≤ g) : QS w3 (w7.setCell ⟨gq, 4, none⟩ v7) gq s n tc ta rg (k + 1) v7 (vs ++ [v6]) := by
  have hne : qs.ownBlock ≠ some gq := fun e => by
    obtain ⟨cur, hb⟩ := h.Q.ty e
    have := hb.ty_eq h.B
    cases this
  have hB7 : Blk w7 gq 33 #[iv n, .slice ta n tc, rg, .slice none 0 0, qs] := Blk.grown h.B hg hne
  have ho : Only (gq :: qs.ownBlock.toList) w6 (w7.setCell ⟨gq, 4, none⟩ v7) := ((Only.refl _ w6).grown hg fun g hg => .inl (by simp [hg])).setCell (.inl (by simp)) _
  have hT2 : ∀ g ∈ gq :: qs.ownBlock.toList, ∃ (t : TypeId) (cs : Array Value), Blk w6 g t cs ∧ t ≠ 2 := fun g hm => by
    simp only [List.mem_cons, Option.mem_toList] at hm
    rcases hm with rfl | hm
    · exact ⟨33, _, h.B, by decide⟩
    · obtain ⟨cur, hb⟩ := h.Q.ty hm
      exact ⟨29, _, hb, by decide⟩
  have hvl : vs.length = k := by have := h.Q.len; omega
  refine ⟨(h.O.grown hg fun g hg => .inr (h.qf g hg)).setCell (.inr h.gq) _, hB7.set_ 4 v7, ?_, hown, fun j hj => ?_, sl_typed h.R ho hT2, h.rf, h.gq⟩
  · exact hS.far (fun e => by
      obtain ⟨cur, hb⟩ := hS.ty e
      have := hb.ty_eq hB7
      cases this) _
  · by_cases hjk : j < vs.length
    · rw [List.getElem_append_left hjk]
      exact ⟨sl_typed (h.E j hjk).1 ho hT2, (h.E j hjk).2⟩
    · have hj2 : j = k := by simp at hj; omega
      subst hj2
      rw [List.getElem_append_right (by omega)]
      simp only [hvl, Nat.sub_self, List.getElem_singleton]
      exact ⟨sl_typed hv ho hT2, hvf⟩
end
theorem index63_0 (x0 x1 x2 x3 : Value) (w : World) : (Instr.index 63 (.agg #[x0, x1, x2, x3]) (.int .i64 0)).run Try.prog w = .ok x0 w := by
  simp [go_sem, Instr.index, run_underlying Try.underlying63, asIntOf, part, isAgg, run_underlying Try.underlying29]
theorem index63_1 (x0 x1 x2 x3 : Value) (w : World) : (Instr.index 63 (.agg #[x0, x1, x2, x3]) (.int .i64 1)).run Try.prog w = .ok x1 w := by
  simp [go_sem, Instr.index, run_underlying Try.underlying63, asIntOf, part, isAgg, run_underlying Try.underlying29]
theorem index63_2 (x0 x1 x2 x3 : Value) (w : World) : (Instr.index 63 (.agg #[x0, x1, x2, x3]) (.int .i64 2)).run Try.prog w = .ok x2 w := by
  simp [go_sem, Instr.index, run_underlying Try.underlying63, asIntOf, part, isAgg, run_underlying Try.underlying29]
theorem index63_3 (x0 x1 x2 x3 : Value) (w : World) : (Instr.index 63 (.agg #[x0, x1, x2, x3]) (.int .i64 3)).run Try.prog w = .ok x3 w := by
  simp [go_sem, Instr.index, run_underlying Try.underlying63, asIntOf, part, isAgg, run_underlying Try.underlying29]
theorem info49 : (Try.prog.info? 49).map (fun i => (i.zero, i.size, i.bytes)) = some (some (.agg #[iv 0, iv 0]), 2, 16) := by kernel_rfl
def endsV (s : S) (k : Nat) : List Value := (List.range k).flatMap fun i => [iv (how s (s.ts i)), iv (s.ts i).num]
theorem endsV_succ (s : S) (k : Nat) : endsV s (k + 1) = endsV s k ++ [iv (how s (s.ts k)), iv (s.ts k).num] := by
  unfold endsV
  rw [List.range_succ, List.flatMap_append]
  simp
/-- The ends, so far. -/
structure QE (w3 wr : World) (gq : Nat) (s : S) (n tc : Nat) (ta : Option Addr) (rg qs : Value) (vs : List Value) (k : Nat) (en : Value) : Prop where
  O : Only [] w3 wr
  B : Blk wr gq 33 #[iv n, .slice ta n tc, rg, en, qs]
  Q : Sl wr 29 1 qs 4 vs
  qf : ∀ g, qs.ownBlock = some g → w3.heap.size ≤ g
  E : ∀ j (h : j < vs.length), Sl wr 2 1 vs[j] (s.queues j).length (ints (s.queues j)) ∧ ∀ g, vs[j].ownBlock = some g → w3.heap.size ≤ g
  R : Sl wr 2 1 rg 8 (regsV s)
  rf : ∀ g, rg.ownBlock = some g → w3.heap.size ≤ g
  gq : w3.heap.size ≤ gq
  N : Sl wr 49 2 en k (endsV s k)
  nf : ∀ g, en.ownBlock = some g → w3.heap.size ≤ g
section
variable {w3 w6 w7 : World} {gq : Nat} {s : S} {n tc : Nat} {ta : Option Addr} {rg qs en : Value} {k : Nat} {vs : List Value}
theorem QE.only0 (h : QE w3 w6 gq s n tc ta rg qs vs k en) (ho : Only [] w6 w7) : QE w3 w7 gq s n tc ta rg qs vs k en :=
  ⟨h.O.trans ho, h.B.only ho (by simp), h.Q.only ho (by simp), h.qf, fun j hj => ⟨(h.E j hj).1.only ho (by simp), (h.E j hj).2⟩, h.R.only ho (by simp), h.rf, h.gq, h.N.only ho (by simp), h.nf⟩
theorem QE.push (h : QE w3 w6 gq s n tc ta rg qs vs k en) {v7 : Value} (hS : Sl w7 49 2 v7 (k + 1) (endsV s k ++ [iv (how s (s.ts k)), iv (s.ts k).num]))
    (hg : w6.grownBy w7 en.ownBlock) (hown : ∀ g, v7.ownBlock = some g → w3.heap.size ≤ g) : QE w3 (w7.setCell ⟨gq, 3, none⟩ v7) gq s n tc ta rg qs vs (k + 1) v7 := by
  have hne : en.ownBlock ≠ some gq := fun e => by
    obtain ⟨cur, hb⟩ := h.N.ty e
    have := hb.ty_eq h.B
    cases this
  have hB7 : Blk w7 gq 33 #[iv n, .slice ta n tc, rg, en, qs] := Blk.grown h.B hg hne
  have ho : Only (gq :: en.ownBlock.toList) w6 (w7.setCell ⟨gq, 3, none⟩ v7) := ((Only.refl _ w6).grown hg fun g hg => .inl (by simp [hg])).setCell (.inl (by simp)) _
  have hT : ∀ t0 : TypeId, t0 ≠ 33 → t0 ≠ 49 → ∀ g ∈ gq :: en.ownBlock.toList, ∃ (t : TypeId) (cs : Array Value), Blk w6 g t cs ∧ t ≠ t0 := fun t0 h1 h2 g hm => by
    simp only [List.mem_cons, Option.mem_toList] at hm
    rcases hm with rfl | hm
    · exact ⟨33, _, h.B, fun e => h1 e.symm⟩
    · obtain ⟨cur, hb⟩ := h.N.ty hm
      exact ⟨49, _, hb, fun e => h2 e.symm⟩
  refine ⟨(h.O.grown hg fun g hg => .inr (h.nf g hg)).setCell (.inr h.gq) _, hB7.set_ 3 v7, sl_typed h.Q ho (hT 29 (by decide) (by decide)), h.qf, fun j hj => ⟨sl_typed (h.E j hj).1 ho (hT 2 (by decide) (by decide)), (h.E j hj).2⟩, sl_typed h.R ho (hT 2 (by decide) (by decide)), h.rf, h.gq, ?_, hown⟩
  rw [endsV_succ]
  exact hS.far (fun e => by
    obtain ⟨cur, hb⟩ := hS.ty e
    have := hb.ty_eq hB7
    cases this) _
end
/-- What a run hands back. -/
structure RunV (B : Nat) (w' : World) (s : S) (v : Value) : Prop where
  it : ∃ tr rg en qs vs, v = .agg #[iv s.trace.length, tr, rg, en, qs] ∧ Sl w' 39 2 tr s.trace.length (turns s.trace) ∧ Sl w' 2 1 rg 8 (regsV s) ∧ Sl w' 49 2 en s.n (endsV s s.n) ∧ Sl w' 29 1 qs 4 vs ∧
    (∀ j (h : j < vs.length), Sl w' 2 1 vs[j] (s.queues j).length (ints (s.queues j)) ∧ ∀ g, vs[j].ownBlock = some g → B ≤ g) ∧
    (∀ g, tr.ownBlock = some g → B ≤ g) ∧ (∀ g, rg.ownBlock = some g → B ≤ g) ∧ (∀ g, en.ownBlock = some g → B ≤ g) ∧ (∀ g, qs.ownBlock = some g → B ≤ g)
theorem QE.result {B : Nat} {w' w3 wr : World} {base r : Nat} {f : Nat → Value} {b : Nat → Nat} {gq : Nat} {s : S} {tc : Nat} {ta : Option Addr} {rg qs en : Value} {vs : List Value} {g8 : Nat} {Z : Array Value}
    (h : QE w3 wr gq s s.trace.length tc ta rg qs vs s.n en) (hR : RS w3 base r f b s) (hf : f 23 = .slice ta s.trace.length tc) (hB : B ≤ base) (h8 : Blk wr g8 33 Z) (ho : Only [g8] wr w') : RunV B w' s (.agg #[iv s.trace.length, .slice ta s.trace.length tc, rg, en, qs]) := by
  have hB3 : B ≤ w3.heap.size := Nat.le_trans hB hR.base_le
  have hT : ∀ t0 : TypeId, t0 ≠ 33 → ∀ g ∈ [g8], ∃ (t : TypeId) (cs : Array Value), Blk wr g t cs ∧ t ≠ t0 := fun t0 h1 g hm => by
    obtain rfl : g = g8 := by simpa using hm
    exact ⟨33, _, h8, fun e => h1 e.symm⟩
  have hRr := (hR.only0 h.O).1
  have htr := hRr.sTrace.2
  rw [hf] at htr
  refine ⟨_, rg, en, qs, vs, rfl, sl_typed htr ho (hT 39 (by decide)), sl_typed h.R ho (hT 2 (by decide)), sl_typed h.N ho (hT 49 (by decide)), sl_typed h.Q ho (hT 29 (by decide)), fun j hj => ⟨sl_typed (h.E j hj).1 ho (hT 2 (by decide)), fun g hg => Nat.le_trans hB3 ((h.E j hj).2 g hg)⟩,
    fun g hg => ?_, fun g hg => Nat.le_trans hB3 (h.rf g hg), fun g hg => Nat.le_trans hB3 (h.nf g hg), fun g hg => Nat.le_trans hB3 (h.qf g hg)⟩
  exact Nat.le_trans hB (hR.rc.own 23 (by omega) g (by rw [hf]; exact hg))
set_option maxRecDepth 100000 in
set_option maxHeartbeats 32000000 in
theorem run_ok {w : World} {tv pv : Value} {acts : List (List A)} {ps : List Int} (room most : Int) (h : TasksV w.heap.size w tv acts) (hp : Row intv w pv ps) (hpb : ∀ g, pv.ownBlock = some g → g < w.heap.size) (hk : askedM acts room ps most = 0) :
    Calls Try.prog 15 #[tv, iv room, pv, iv most] w fun e w' => ∃ v, e = .returned (.tuple #[v, iv 0]) ∧ RunV w.heap.size w' (all (ps.map Int.toNat) most.toNat (begin_ acts room)) v ∧ Below w.heap.size w w' := by
  have hO := (Only.refl [] w).alloc (.cells #[iv 0, .slice none 0 0, .slice none 0 0, .slice none 0 0, .slice none 0 0] 33)
  have HA := Lib.hid (asked_ok (base := w.heap.size) room most (h.below (Below.of_only hO (Nat.le_refl _))) (by simp) (hp.only hO))
  have hbk : Blk (w.alloc (.cells #[iv 0, .slice none 0 0, .slice none 0 0, .slice none 0 0, .slice none 0 0] 33)) w.heap.size 33 #[iv 0, .slice none 0 0, .slice none 0 0, .slice none 0 0, .slice none 0 0] := Blk.new _ _ _
  obtain ⟨q1, q2, q3, q4, q5, q6, q7, q8, q9, q10⟩ := asked_zero hk
  rw [hk] at HA
  obtain ⟨m, rfl⟩ := nat_of q4
  have HWF := Lib.hid (begin_wf q1 q2 q3 q8 q9 q10)
  have HPN := Lib.hid (row_nat hp q7)
  have HPB := Lib.hid hpb
  have HT := Lib.hid h
  clear q7 q8 q9 q10 hpb h hp hk
  rw [Int.toNat_natCast]
  go_enter Try.func15, Try.ntmps15
  go_wp2_with fail
  refine HA.out.mono ?_
  clear HA
  rintro e w1 ⟨rfl, hO1⟩
  have HO := Lib.hid (hO.trans hO1)
  have HB1 := Lib.hid (hbk.only hO1 (by simp))
  have HT1 := Lib.hid (HT.out.below (Below.of_only HO.out (Nat.le_refl _)))
  have hsz : w.heap.size < w1.heap.size := HB1.out.lt
  have HT2 : Hid (TasksV w1.heap.size w1 tv acts) := Lib.hid (by
    obtain ⟨a, cap, h1, h2, h3, h4⟩ := HT1.out
    refine ⟨a, cap, h1, h2, h3, fun h0 => ?_⟩
    obtain ⟨g, off, h5, h6, h7, h8⟩ := h4 h0
    refine ⟨g, off, h5, h7, h7, fun i hi => ?_⟩
    obtain ⟨v, h9, a2, c2, e1, e2, e3, e4⟩ := h8 i hi
    refine ⟨v, h9, a2, c2, e1, e2, e3, fun hn => ?_⟩
    obtain ⟨g3, o3, e5, e6, e7, e8⟩ := e4 hn
    exact ⟨g3, o3, e5, e7, e7, e8⟩)
  have HBG := Lib.hid (begun_run (room := room) HT2.out (by omega))
  clear hO hO1 hbk HT HT1
  go_wp2_with fail
  refine HBG.out.mono ?_
  clear HBG
  rintro e w2 ⟨r, f, b, rfl, hR, hB⟩
  have HPN2 := Lib.hid (Row.below' (HPN.out.only HO.out) hB (fun g hg => Nat.lt_of_lt_of_le (HPB.out g hg) (Nat.le_of_lt hsz)))
  have HAL := Lib.hid (all_ok (most := m) hR HWF.out HPN2.out (fun g hg => Nat.lt_of_lt_of_le (HPB.out g hg) (Nat.le_of_lt hsz)) (by omega) (Nat.zero_le _))
  have HB2 := Lib.hid hB
  clear hR hB
  go_wp2_with fail
  refine HAL.out.mono ?_
  clear HAL
  rintro e w3 ⟨rfl, ⟨f3, hR⟩, hB⟩
  have HB3 := Lib.hid (HB2.out.trans hB)
  have H3 := Lib.hid (show RS w3 w1.heap.size r f3 b (all (ps.map Int.toNat) m (begin_ acts room)) from hR)
  clear hR hB HB2 HPN2
  go_wp2
  have HWF := Lib.hid (all_wf (ps.map Int.toNat) m _ _ HWF.out)
  obtain ⟨s, hs⟩ : ∃ s, all (ps.map Int.toNat) m (begin_ acts room) = s := ⟨_, rfl⟩
  rw [hs] at H3 HWF
  have HSE := Lib.hid hs
  clear hs
  obtain ⟨j2, si, sz0, sz1, sz2⟩ := info_parts info2
  obtain ⟨ct, hS⟩ := H3.out.sTrace
  obtain ⟨ta, tc, htv, _, _⟩ := hS.shape
  have HTV := Lib.hid htv
  rw [htv] at ct
  have hlr := H3.out.lt
  have hregs := H3.out.cRegs
  clear hS htv
  refine Code.wp_mono (Q := RunMid tv pv room m r w.heap.size s.trace.length tc ta (regsV s) w3) ?_ ?_
  · rintro e a w5 ⟨gq, rga, rgc, rfl, rg, rfl, rfl, hO5, hbq, hgq, hrg, hrf⟩
    have HWF := Lib.hid HWF.out.1
    rw [Nat.zero_add] at HWF
    have H5 := Lib.hid (H3.out.only0 hO5).1
    obtain ⟨d0, s0⟩ := H5.out.sQueue (k := 0) (by omega)
    obtain ⟨d1, s1⟩ := H5.out.sQueue (k := 1) (by omega)
    obtain ⟨d2, s2⟩ := H5.out.sQueue (k := 2) (by omega)
    obtain ⟨d3, s3⟩ := H5.out.sQueue (k := 3) (by omega)
    obtain ⟨a0, c0, e0, _, _⟩ := s0.shape
    obtain ⟨a1, c1, e1, _, _⟩ := s1.shape
    obtain ⟨a2, c2, e2, _, _⟩ := s2.shape
    obtain ⟨a3, c3, e3, _, _⟩ := s3.shape
    rw [e0] at d0
    rw [e1] at d1
    rw [e2] at d2
    rw [e3] at d3
    have E0 := Lib.hid e0
    have E1 := Lib.hid e1
    have E2 := Lib.hid e2
    have E3 := Lib.hid e3
    have hlr5 := H5.out.lt
    have HQ0 := Lib.hid (show QS w3 w5 gq s s.trace.length tc ta (.slice rga 8 rgc) 0 (.slice none 0 0) [] from ⟨hO5, hbq, Sl.nil _ _ _, fun g hg => by simp [Value.ownBlock] at hg, fun j hj => absurd hj (Nat.not_lt_zero j), hrg, hrf, hgq⟩)
    clear s0 s1 s2 s3 e0 e1 e2 e3 hO5 hbq hrg hrf ct hlr hregs H5
    go_wp2
    go_loopw [52] (fun z wr => ∃ (k : Nat) (qs : Value) (vs : List Value), k ≤ 4 ∧ z = .int .i64 k ∧ Hid (QS w3 wr gq s s.trace.length tc ta (.slice rga 8 rgc) k qs vs)) (fun z _ => 4 - (intOf z).toNat)
    case atStart => exact ⟨0, _, _, Nat.zero_le _, rfl, HQ0⟩
    case round =>
      obtain ⟨k, qs, vs, hk, rfl, HQ⟩ := hrel
      clear HQ0 d0 d1 d2 d3 hlr5
      have hk4 : k = 0 ∨ k = 1 ∨ k = 2 ∨ k = 3 ∨ k = 4 := by omega
      rcases hk4 with rfl | rfl | rfl | rfl | hk4
      ·
        have hix := index63_0
        obtain ⟨j29, ti, tz0, tz1, tz2⟩ := info_parts info29
        have hR := (H3.out.only0 HQ.out.O).1
        obtain ⟨_, hSq⟩ := hR.sQueue (k := 0) (by omega)
        rw [E0.out] at hSq
        have HSQ := Lib.hid hSq
        have hql := HWF.out.queues 0
        obtain ⟨qa, qc, hqv, _, _⟩ := HQ.out.Q.shape
        subst hqv
        obtain ⟨hcq, hfq, hlq⟩ := HQ.out.B.facts
        clear hR hSq
        go_wp2
        go_region_law (first
          | (refine step_append_sls rfl (.const (.slice none 0 0)) (.tmp 57) 29 rfl 2 j2 _ 1 8 Try.underlying29 si sz0 sz1 sz2 rfl (by decide) rfl (Sl.nil _ _ _) rfl HSQ.out (by simp [ints, Value.oneCell']) (by unfold maxLen; omega) (by omega) ?_
             intro v6 w6 hS6 hg6 hat6
             have HO6 : Hid (Only [] wr w6) := Lib.hid (only_grown (Only.refl [] wr).drew hg6 rfl)
             have HF6 : Hid (∀ g, v6.ownBlock = some g → w3.heap.size ≤ g) := Lib.hid (fun g hg => by
               rcases hat6 with e | e
               · exact nomatch (e.symm.trans hg)
               · rw [e] at hg; injection hg with hg; rw [← hg]; exact HQ.out.O.size)
             have HS6 : Hid (Sl w6 2 1 v6 (s.queues 0).length (ints (s.queues 0))) := Lib.hid (by simpa using hS6)
             obtain ⟨ua, uc, hv6, _, _⟩ := HS6.out.shape
             subst hv6
             have HQ6 := Lib.hid (HQ.out.only0 HO6.out)
             have hcq6 := HQ6.out.B.cell
             have hcq6a : ∀ u, (w6.alloc (.cells u 29)).cell? ⟨gq, 4, none⟩ = some (.slice qa 0 qc) := fun u => (HQ6.out.B.alloc (.cells u 29)).cell 4
             clear hS6 hg6 hat6)
          | (refine step_append_sls rfl (.tmp 56) (.tmp 59) 31 rfl 29 j29 _ 1 24 Try.underlying31 ti tz0 tz1 tz2 rfl (by decide) rfl (HQ6.out.Q.alloc _) rfl (sl_one (Blk.new _ _ _) rfl) (by simp [Value.oneCell']) (by unfold maxLen; omega) (by omega) ?_
             intro v7 w7 hS7 hg7 hat7
             have HP7 := Lib.hid (QS.push (HQ.out.only0 (HO6.out.alloc (.cells #[.slice ua (s.queues 0).length uc] 29))) (HS6.out.alloc _) HF6.out hS7 hg7 (fun g hg => by
               rcases hat7 with e | e
               · exact HQ6.out.qf g (e ▸ hg)
               · rw [e] at hg; injection hg with hg; rw [← hg]; exact (HQ6.out.O.alloc (.cells #[.slice ua (s.queues 0).length uc] 29)).size))
             have HB7 := Lib.hid (Blk.grown (HQ6.out.B.alloc (.cells #[.slice ua (s.queues 0).length uc] 29)) hg7 (fun e => by
               obtain ⟨cur, hb⟩ := (HQ6.out.Q.alloc (.cells #[.slice ua (s.queues 0).length uc] 29)).ty e
               have := hb.ty_eq (HQ6.out.B.alloc (.cells #[.slice ua (s.queues 0).length uc] 29))
               cases this))
             obtain ⟨pa, pc, hv7, _, _⟩ := hS7.shape
             subst hv7
             obtain ⟨hcq7, hfq7, hlq7⟩ := HB7.out.facts
             clear hS7 hg7 hat7))
        all_goals
          go_wp2
          go_roundw
          case measure => simp [intOf]
          case rel => exact ⟨0 + 1, _, _, by omega, by go_num, HP7⟩
      ·
        have hix := index63_1
        obtain ⟨j29, ti, tz0, tz1, tz2⟩ := info_parts info29
        have hR := (H3.out.only0 HQ.out.O).1
        obtain ⟨_, hSq⟩ := hR.sQueue (k := 1) (by omega)
        rw [E1.out] at hSq
        have HSQ := Lib.hid hSq
        have hql := HWF.out.queues 1
        obtain ⟨qa, qc, hqv, _, _⟩ := HQ.out.Q.shape
        subst hqv
        obtain ⟨hcq, hfq, hlq⟩ := HQ.out.B.facts
        clear hR hSq
        go_wp2
        go_region_law (first
          | (refine step_append_sls rfl (.const (.slice none 0 0)) (.tmp 57) 29 rfl 2 j2 _ 1 8 Try.underlying29 si sz0 sz1 sz2 rfl (by decide) rfl (Sl.nil _ _ _) rfl HSQ.out (by simp [ints, Value.oneCell']) (by unfold maxLen; omega) (by omega) ?_
             intro v6 w6 hS6 hg6 hat6
             have HO6 : Hid (Only [] wr w6) := Lib.hid (only_grown (Only.refl [] wr).drew hg6 rfl)
             have HF6 : Hid (∀ g, v6.ownBlock = some g → w3.heap.size ≤ g) := Lib.hid (fun g hg => by
               rcases hat6 with e | e
               · exact nomatch (e.symm.trans hg)
               · rw [e] at hg; injection hg with hg; rw [← hg]; exact HQ.out.O.size)
             have HS6 : Hid (Sl w6 2 1 v6 (s.queues 1).length (ints (s.queues 1))) := Lib.hid (by simpa using hS6)
             obtain ⟨ua, uc, hv6, _, _⟩ := HS6.out.shape
             subst hv6
             have HQ6 := Lib.hid (HQ.out.only0 HO6.out)
             have hcq6 := HQ6.out.B.cell
             have hcq6a : ∀ u, (w6.alloc (.cells u 29)).cell? ⟨gq, 4, none⟩ = some (.slice qa 1 qc) := fun u => (HQ6.out.B.alloc (.cells u 29)).cell 4
             clear hS6 hg6 hat6)
          | (refine step_append_sls rfl (.tmp 56) (.tmp 59) 31 rfl 29 j29 _ 1 24 Try.underlying31 ti tz0 tz1 tz2 rfl (by decide) rfl (HQ6.out.Q.alloc _) rfl (sl_one (Blk.new _ _ _) rfl) (by simp [Value.oneCell']) (by unfold maxLen; omega) (by omega) ?_
             intro v7 w7 hS7 hg7 hat7
             have HP7 := Lib.hid (QS.push (HQ.out.only0 (HO6.out.alloc (.cells #[.slice ua (s.queues 1).length uc] 29))) (HS6.out.alloc _) HF6.out hS7 hg7 (fun g hg => by
               rcases hat7 with e | e
               · exact HQ6.out.qf g (e ▸ hg)
               · rw [e] at hg; injection hg with hg; rw [← hg]; exact (HQ6.out.O.alloc (.cells #[.slice ua (s.queues 1).length uc] 29)).size))
             have HB7 := Lib.hid (Blk.grown (HQ6.out.B.alloc (.cells #[.slice ua (s.queues 1).length uc] 29)) hg7 (fun e => by
               obtain ⟨cur, hb⟩ := (HQ6.out.Q.alloc (.cells #[.slice ua (s.queues 1).length uc] 29)).ty e
               have := hb.ty_eq (HQ6.out.B.alloc (.cells #[.slice ua (s.queues 1).length uc] 29))
               cases this))
             obtain ⟨pa, pc, hv7, _, _⟩ := hS7.shape
             subst hv7
             obtain ⟨hcq7, hfq7, hlq7⟩ := HB7.out.facts
             clear hS7 hg7 hat7))
        all_goals
          go_wp2
          go_roundw
          case measure => simp [intOf]
          case rel => exact ⟨1 + 1, _, _, by omega, by go_num, HP7⟩
      ·
        have hix := index63_2
        obtain ⟨j29, ti, tz0, tz1, tz2⟩ := info_parts info29
        have hR := (H3.out.only0 HQ.out.O).1
        obtain ⟨_, hSq⟩ := hR.sQueue (k := 2) (by omega)
        rw [E2.out] at hSq
        have HSQ := Lib.hid hSq
        have hql := HWF.out.queues 2
        obtain ⟨qa, qc, hqv, _, _⟩ := HQ.out.Q.shape
        subst hqv
        obtain ⟨hcq, hfq, hlq⟩ := HQ.out.B.facts
        clear hR hSq
        go_wp2
        go_region_law (first
          | (refine step_append_sls rfl (.const (.slice none 0 0)) (.tmp 57) 29 rfl 2 j2 _ 1 8 Try.underlying29 si sz0 sz1 sz2 rfl (by decide) rfl (Sl.nil _ _ _) rfl HSQ.out (by simp [ints, Value.oneCell']) (by unfold maxLen; omega) (by omega) ?_
             intro v6 w6 hS6 hg6 hat6
             have HO6 : Hid (Only [] wr w6) := Lib.hid (only_grown (Only.refl [] wr).drew hg6 rfl)
             have HF6 : Hid (∀ g, v6.ownBlock = some g → w3.heap.size ≤ g) := Lib.hid (fun g hg => by
               rcases hat6 with e | e
               · exact nomatch (e.symm.trans hg)
               · rw [e] at hg; injection hg with hg; rw [← hg]; exact HQ.out.O.size)
             have HS6 : Hid (Sl w6 2 1 v6 (s.queues 2).length (ints (s.queues 2))) := Lib.hid (by simpa using hS6)
             obtain ⟨ua, uc, hv6, _, _⟩ := HS6.out.shape
             subst hv6
             have HQ6 := Lib.hid (HQ.out.only0 HO6.out)
             have hcq6 := HQ6.out.B.cell
             have hcq6a : ∀ u, (w6.alloc (.cells u 29)).cell? ⟨gq, 4, none⟩ = some (.slice qa 2 qc) := fun u => (HQ6.out.B.alloc (.cells u 29)).cell 4
             clear hS6 hg6 hat6)
          | (refine step_append_sls rfl (.tmp 56) (.tmp 59) 31 rfl 29 j29 _ 1 24 Try.underlying31 ti tz0 tz1 tz2 rfl (by decide) rfl (HQ6.out.Q.alloc _) rfl (sl_one (Blk.new _ _ _) rfl) (by simp [Value.oneCell']) (by unfold maxLen; omega) (by omega) ?_
             intro v7 w7 hS7 hg7 hat7
             have HP7 := Lib.hid (QS.push (HQ.out.only0 (HO6.out.alloc (.cells #[.slice ua (s.queues 2).length uc] 29))) (HS6.out.alloc _) HF6.out hS7 hg7 (fun g hg => by
               rcases hat7 with e | e
               · exact HQ6.out.qf g (e ▸ hg)
               · rw [e] at hg; injection hg with hg; rw [← hg]; exact (HQ6.out.O.alloc (.cells #[.slice ua (s.queues 2).length uc] 29)).size))
             have HB7 := Lib.hid (Blk.grown (HQ6.out.B.alloc (.cells #[.slice ua (s.queues 2).length uc] 29)) hg7 (fun e => by
               obtain ⟨cur, hb⟩ := (HQ6.out.Q.alloc (.cells #[.slice ua (s.queues 2).length uc] 29)).ty e
               have := hb.ty_eq (HQ6.out.B.alloc (.cells #[.slice ua (s.queues 2).length uc] 29))
               cases this))
             obtain ⟨pa, pc, hv7, _, _⟩ := hS7.shape
             subst hv7
             obtain ⟨hcq7, hfq7, hlq7⟩ := HB7.out.facts
             clear hS7 hg7 hat7))
        all_goals
          go_wp2
          go_roundw
          case measure => simp [intOf]
          case rel => exact ⟨2 + 1, _, _, by omega, by go_num, HP7⟩
      ·
        have hix := index63_3
        obtain ⟨j29, ti, tz0, tz1, tz2⟩ := info_parts info29
        have hR := (H3.out.only0 HQ.out.O).1
        obtain ⟨_, hSq⟩ := hR.sQueue (k := 3) (by omega)
        rw [E3.out] at hSq
        have HSQ := Lib.hid hSq
        have hql := HWF.out.queues 3
        obtain ⟨qa, qc, hqv, _, _⟩ := HQ.out.Q.shape
        subst hqv
        obtain ⟨hcq, hfq, hlq⟩ := HQ.out.B.facts
        clear hR hSq
        go_wp2
        go_region_law (first
          | (refine step_append_sls rfl (.const (.slice none 0 0)) (.tmp 57) 29 rfl 2 j2 _ 1 8 Try.underlying29 si sz0 sz1 sz2 rfl (by decide) rfl (Sl.nil _ _ _) rfl HSQ.out (by simp [ints, Value.oneCell']) (by unfold maxLen; omega) (by omega) ?_
             intro v6 w6 hS6 hg6 hat6
             have HO6 : Hid (Only [] wr w6) := Lib.hid (only_grown (Only.refl [] wr).drew hg6 rfl)
             have HF6 : Hid (∀ g, v6.ownBlock = some g → w3.heap.size ≤ g) := Lib.hid (fun g hg => by
               rcases hat6 with e | e
               · exact nomatch (e.symm.trans hg)
               · rw [e] at hg; injection hg with hg; rw [← hg]; exact HQ.out.O.size)
             have HS6 : Hid (Sl w6 2 1 v6 (s.queues 3).length (ints (s.queues 3))) := Lib.hid (by simpa using hS6)
             obtain ⟨ua, uc, hv6, _, _⟩ := HS6.out.shape
             subst hv6
             have HQ6 := Lib.hid (HQ.out.only0 HO6.out)
             have hcq6 := HQ6.out.B.cell
             have hcq6a : ∀ u, (w6.alloc (.cells u 29)).cell? ⟨gq, 4, none⟩ = some (.slice qa 3 qc) := fun u => (HQ6.out.B.alloc (.cells u 29)).cell 4
             clear hS6 hg6 hat6)
          | (refine step_append_sls rfl (.tmp 56) (.tmp 59) 31 rfl 29 j29 _ 1 24 Try.underlying31 ti tz0 tz1 tz2 rfl (by decide) rfl (HQ6.out.Q.alloc _) rfl (sl_one (Blk.new _ _ _) rfl) (by simp [Value.oneCell']) (by unfold maxLen; omega) (by omega) ?_
             intro v7 w7 hS7 hg7 hat7
             have HP7 := Lib.hid (QS.push (HQ.out.only0 (HO6.out.alloc (.cells #[.slice ua (s.queues 3).length uc] 29))) (HS6.out.alloc _) HF6.out hS7 hg7 (fun g hg => by
               rcases hat7 with e | e
               · exact HQ6.out.qf g (e ▸ hg)
               · rw [e] at hg; injection hg with hg; rw [← hg]; exact (HQ6.out.O.alloc (.cells #[.slice ua (s.queues 3).length uc] 29)).size))
             have HB7 := Lib.hid (Blk.grown (HQ6.out.B.alloc (.cells #[.slice ua (s.queues 3).length uc] 29)) hg7 (fun e => by
               obtain ⟨cur, hb⟩ := (HQ6.out.Q.alloc (.cells #[.slice ua (s.queues 3).length uc] 29)).ty e
               have := hb.ty_eq (HQ6.out.B.alloc (.cells #[.slice ua (s.queues 3).length uc] 29))
               cases this))
             obtain ⟨pa, pc, hv7, _, _⟩ := hS7.shape
             subst hv7
             obtain ⟨hcq7, hfq7, hlq7⟩ := HB7.out.facts
             clear hS7 hg7 hat7))
        all_goals
          go_wp2
          go_roundw
          case measure => simp [intOf]
          case rel => exact ⟨3 + 1, _, _, by omega, by go_num, HP7⟩
      · have hkge : (4 : Int) ≤ (k : Int) := by omega
        rw [hk4] at HQ
        clear hk4
        have hR := (H3.out.only0 HQ.out.O).1
        obtain ⟨ct0, hSt⟩ := hR.sTasks
        obtain ⟨tta, ttc, ttv, _, _⟩ := hSt.shape
        have HTT := Lib.hid ttv
        rw [ttv] at ct0
        have hlr6 := hR.lt
        have HE0 := Lib.hid (show QE w3 wr gq s s.trace.length tc ta (.slice rga 8 rgc) qs vs 0 (.slice none 0 0) from ⟨HQ.out.O, HQ.out.B, HQ.out.Q, HQ.out.qf, HQ.out.E, HQ.out.R, HQ.out.rf, HQ.out.gq, Sl.nil _ _ _, fun g hg => by simp [Value.ownBlock] at hg⟩)
        clear hR hSt ttv
        obtain ⟨j49, ui, uz0, uz1, uz2⟩ := info_parts info49
        have hn16 := HWF.out.n
        go_wp2
        go_loopw [68] (fun z wr => ∃ (k : Nat) (en : Value), k ≤ s.n ∧ z = .int .i64 k ∧ Hid (QE w3 wr gq s s.trace.length tc ta (.slice rga 8 rgc) qs vs k en)) (fun z _ => s.n - (intOf z).toNat)
        case atStart => exact ⟨0, _, Nat.zero_le _, rfl, HE0⟩
        case round =>
          obtain ⟨k, en, hk, rfl, HE⟩ := hrel
          clear HE0 HQ ct0 hlr6
          obtain ⟨na, nc, hnv, _, _⟩ := HE.out.N.shape
          subst hnv
          obtain ⟨hcq, hfq, hlq⟩ := HE.out.B.facts
          by_cases hkl : k < s.n
          · have hkz : (k : Int) < (s.n : Int) := by omega
            have hR := (H3.out.only0 HE.out.O).1
            obtain ⟨g0, o0, cc0, hv0, hg0, hct0⟩ := hR.cTask hkl
            rw [HTT.out] at hv0
            injection hv0 with e1 _ e3
            subst e1
            subst e3
            have hRd := (hR.only0 (Only.refl [] wr).drew).1
            have HH := Lib.hid (how_ok hRd HWF.out (by omega) hkl)
            obtain ⟨tv0, hBt, _⟩ := hR.task k hkl
            obtain ⟨hcellt, _, hltt⟩ := hBt.facts
            have HBt := Lib.hid hBt
            clear hR hRd hBt
            go_wp2
            go_region_law (first
              | (go_simp
                 go_at_call 31
                 refine HH.out.mono ?_
                 rintro e w6 ⟨rfl, hO6⟩
                 dsimp only
                 have HO6 : Hid (Only [] wr w6) := Lib.hid ((Only.refl [] wr).drew.trans hO6)
                 have HE6 := Lib.hid (HE.out.only0 HO6.out)
                 have hcq6 := HE6.out.B.cell
                 have hct6 := (HBt.out.only HO6.out (by simp)).cell
                 have hcq6a : ∀ u, (w6.alloc (.cells u 49)).cell? ⟨gq, 3, none⟩ = some (.slice na k nc) := fun u => (HE6.out.B.alloc (.cells u 49)).cell 3
                 have hlt6 := (HBt.out.only HO6.out (by simp)).lt
                 have hlq6 := HE6.out.B.lt
                 clear hO6)
              | (refine step_append_sls rfl (.tmp 73) (.tmp 82) 30 rfl 49 j49 _ 2 16 Try.underlying30 ui uz0 uz1 uz2 rfl (by decide) rfl (HE6.out.N.alloc _) rfl (sl_pair (Blk.new _ _ _) rfl) (by simp [Value.oneCell']) (by unfold maxLen; omega) (by omega) ?_
                 intro v7 w7 hS7 hg7 hat7
                 have HP7 := Lib.hid (QE.push (HE.out.only0 (HO6.out.alloc (.cells #[iv (how s (s.ts k)), iv (s.ts k).num] 49))) hS7 hg7 (fun g hg => by
                   rcases hat7 with e | e
                   · exact HE6.out.nf g (e ▸ hg)
                   · rw [e] at hg; injection hg with hg; rw [← hg]; exact (HE6.out.O.alloc (.cells #[iv (how s (s.ts k)), iv (s.ts k).num] 49)).size))
                 have HB7 := Lib.hid (Blk.grown (HE6.out.B.alloc (.cells #[iv (how s (s.ts k)), iv (s.ts k).num] 49)) hg7 (fun e => by
                   obtain ⟨cur, hb⟩ := (HE6.out.N.alloc (.cells #[iv (how s (s.ts k)), iv (s.ts k).num] 49)).ty e
                   have := hb.ty_eq (HE6.out.B.alloc (.cells #[iv (how s (s.ts k)), iv (s.ts k).num] 49))
                   cases this))
                 obtain ⟨pa, pc, hv7, _, _⟩ := hS7.shape
                 subst hv7
                 obtain ⟨hcq7, hfq7, hlq7⟩ := HB7.out.facts
                 clear hS7 hg7 hat7))
            all_goals
              go_wp2
              go_roundw
              case measure => simp [intOf]; omega
              case rel => exact ⟨k + 1, _, by omega, by go_num, HP7⟩
          · obtain rfl : k = s.n := by omega
            have hb8 : Blk wr w.heap.size 33 #[iv 0, .slice none 0 0, .slice none 0 0, .slice none 0 0, .slice none 0 0] := Blk.only (show Blk w3 w.heap.size 33 _ from (HB3.out.block _ hsz).trans HB1.out) HE.out.O (by simp)
            obtain ⟨qsa, qsc, hqs, _, _⟩ := HE.out.Q.shape
            subst hqs
            have HB8 := Lib.hid hb8
            obtain ⟨hc8, hf8, hl8⟩ := hb8.facts
            clear hb8
            go_wp2
            have ho8 : Only [w.heap.size] wr (((((wr.setCell ⟨w.heap.size, 0, none⟩ (iv s.trace.length)).setCell ⟨w.heap.size, 1, none⟩ (.slice ta s.trace.length tc)).setCell ⟨w.heap.size, 2, none⟩ (.slice rga 8 rgc)).setCell ⟨w.heap.size, 3, none⟩ (.slice na s.n nc)).setCell ⟨w.heap.size, 4, none⟩ (.slice qsa 4 qsc)) := (((((Only.refl _ wr).setCell (p := ⟨w.heap.size, 0, none⟩) (.inl (by simp)) _).setCell (p := ⟨w.heap.size, 1, none⟩) (.inl (by simp)) _).setCell (p := ⟨w.heap.size, 2, none⟩) (.inl (by simp)) _).setCell (p := ⟨w.heap.size, 3, none⟩) (.inl (by simp)) _).setCell (p := ⟨w.heap.size, 4, none⟩) (.inl (by simp)) _
            refine bodyPost_ret (v := .tuple #[.agg #[iv s.trace.length, .slice ta s.trace.length tc, .slice rga 8 rgc, .slice na s.n nc, .slice qsa 4 qsc], iv 0]) (results2 rfl (res_blk Try.underlying33 (by kernel_rfl) rfl (cs := [iv s.trace.length, .slice ta s.trace.length tc, .slice rga 8 rgc, .slice na s.n nc, .slice qsa 4 qsc]) ?_) (res_tmp rfl)) rfl ⟨_, rfl, ?_, ?_⟩
            · (repeat' (first | with_reducible exact HB8.out | with_reducible apply Blk.drew | with_reducible apply Blk.drewN | with_reducible apply Blk.alloc | ((with_reducible apply Blk.far); rotate_left; (focus (simp <;> omega))) | with_reducible apply Blk.set' | with_reducible exact SetEq.rfl' | (simp [SetEq]; done) | (simp [SetEq]; omega)))
            · rw [HSE.out]
              exact HE.out.result H3.out HTV.out (Nat.le_of_lt hsz) HB8.out ho8
            · have g1 : Below w.heap.size w w1 := Below.of_only HO.out (Nat.le_refl _)
              have g2 : Below w.heap.size w1 w3 := ⟨HB3.out.os, HB3.out.tape, HB3.out.output, HB3.out.size, fun i hi => HB3.out.block i (by omega)⟩
              have g3 : Below w.heap.size w3 wr := Below.of_only HE.out.O (Nat.le_trans (Nat.le_of_lt hsz) g2.size)
              have g4 : Below w.heap.size wr _ := ⟨ho8.os, ho8.tape, ho8.output, ho8.size, fun i hi => ho8.block i (Nat.lt_of_lt_of_le hi (Nat.le_trans (Nat.le_of_lt hsz) (Nat.le_trans g2.size g3.size))) (by simp; omega)⟩
              exact ((g1.trans g2).trans g3).trans g4
  · have hct : ∀ (o : Obj), (w3.alloc o).cell? ⟨r, 23, none⟩ = some (.slice ta s.trace.length tc) := fun o => ((H3.out.only0 ((Only.refl [] w3).alloc o)).1.sTrace).1.trans (congrArg some HTV.out)
    have hr1 : ∀ j u, (regsV s)[j]? = some u → w3.drew.cell? ((⟨r, 14, none⟩ : Addr).add j) = some u := hregs
    have hr2 : ∀ j u, (regsV s)[j]? = some u → (w3.alloc (.cells #[iv 0, .slice none 0 0, .slice none 0 0, .slice none 0 0, .slice none 0 0] 33)).drew.cell? ((⟨r, 14, none⟩ : Addr).add j) = some u := (H3.out.only0 ((Only.refl [] w3).alloc _)).1.cRegs
    have hnq : w3.heap.size ≠ r := by omega
    clear hregs
    refine wp_region_noPanic ?_
    go_region_held3 (fun w' => w'.cell? ⟨r, 23, none⟩ = some (.slice ta s.trace.length tc)) (first | with_reducible exact ct | with_reducible exact hct _ | with_reducible exact hc4 | with_reducible exact hct4 _ | go_keep) (first
      | (refine step_append_sl rfl (.const (.slice none 0 0)) (.tmp 45) 29 rfl 2 j2 _ 1 8 Try.underlying29 si sz0 sz1 sz2 rfl (by decide) rfl (Sl.nil _ _ _) ⟨r, 14, none⟩ 8 8 (regsV s) rfl rfl (by first | with_reducible exact hr1 | with_reducible exact hr2) (by simp [regsV, Value.oneCell']) (by unfold maxLen; omega) (by omega) ?_
         intro v4 w4 hS4 hg4 hat4
         have HO4 : Hid (Only [] w3 w4) := Lib.hid (by
           refine only_grown ?_ hg4 rfl
           first | with_reducible exact (Only.refl [] w3).drew | with_reducible exact ((Only.refl [] w3).alloc _).drew)
         have hF4 : Hid (∀ g, v4.ownBlock = some g → w3.heap.size ≤ g) := Lib.hid (fun g hg => by
           rcases hat4 with e | e
           · exact nomatch (e.symm.trans hg)
           · rw [e] at hg; injection hg with hg; rw [← hg]; simp)
         have hc4 : w4.cell? ⟨r, 23, none⟩ = some (.slice ta s.trace.length tc) := ((H3.out.only0 HO4.out).1.sTrace).1.trans (congrArg some HTV.out)
         have hct4 : ∀ (o : Obj), (w4.alloc o).cell? ⟨r, 23, none⟩ = some (.slice ta s.trace.length tc) := fun o => ((H3.out.only0 (HO4.out.alloc o)).1.sTrace).1.trans (congrArg some HTV.out)
         have HS4 := Lib.hid hS4
         obtain ⟨rga, rgc, hv4, _, _⟩ := hS4.shape
         subst hv4
         clear hS4 hat4
         first
           | (have HGQ : Hid (Blk w4 w3.heap.size 33 #[iv 0, .slice none 0 0, .slice none 0 0, .slice none 0 0, .slice none 0 0]) := Lib.hid (by
                refine Blk.grown ?_ hg4 (fun e => by cases e)
                with_reducible exact (Blk.new w3 33 _).drew)
              obtain ⟨hqc, hqf, hql⟩ := HGQ.out.facts
              clear hg4)
           | (clear hg4)))
    · refine ⟨w4.heap.size, rga, rgc, rfl, _, rfl, rfl, HO4.out.alloc _, Blk.new _ _ _, HO4.out.size, ?_, hF4.out⟩
      exact Sl.alloc (show Sl w4 2 1 (.slice rga 8 rgc) 8 (regsV s) by simpa using HS4.out) _
    · refine ⟨w3.heap.size, rga, rgc, rfl, _, rfl, rfl, ?_, ?_, Nat.le_refl _, ?_, hF4.out⟩
      · (repeat (first | with_reducible exact Only.refl _ _ | with_reducible exact HO4.out | with_reducible refine Only.drew ?_ | with_reducible refine Only.drewN ?_ _ | with_reducible refine Only.alloc ?_ _ | ((with_reducible refine Only.setCell ?_ ?_ _); rotate_left; (focus (first | (left; simp; done) | (right; simp; done) | (right; simp; omega) | (right; omega))))))
      · (repeat' (first | with_reducible exact HGQ.out | with_reducible apply Blk.drew | with_reducible apply Blk.drewN | with_reducible apply Blk.alloc | ((with_reducible apply Blk.far); rotate_left; (focus (simp <;> omega))) | with_reducible apply Blk.set' | with_reducible exact SetEq.rfl' | (simp [SetEq]; done) | (simp [SetEq]; omega)))
      · have hs : Sl w4 2 1 (.slice rga 8 rgc) 8 (regsV s) := by simpa using HS4.out
        have ho : Only [w3.heap.size] w4 (((((w4.setCell ⟨w3.heap.size, 0, none⟩ (iv s.trace.length)).setCell ⟨w3.heap.size, 1, none⟩ (.slice ta s.trace.length tc)).setCell ⟨w3.heap.size, 2, none⟩ (.slice rga 8 rgc)).setCell ⟨w3.heap.size, 3, none⟩ (.slice none 0 0)).setCell ⟨w3.heap.size, 4, none⟩ (.slice none 0 0)) :=
          ((((((Only.refl _ w4).setCell (.inl (by simp)) _).setCell (.inl (by simp)) _).setCell (.inl (by simp)) _).setCell (.inl (by simp)) _).setCell (.inl (by simp)) _)
        refine hs.only ho fun g hg hm => ?_
        obtain rfl : g = w3.heap.size := by simpa using hm
        obtain ⟨cur, hb⟩ := hs.ty hg
        have := hb.ty_eq HGQ.out
        cases this
end Go.Proofs.Ytompelilflckkaa
