/-
  The scheduler: a task's act, kind by kind: a put.
-/
import Derived.Test.YtompelilflckkaaMi
set_option linter.unusedSimpArgs false
set_option linter.unusedVariables false
namespace Go.Proofs.Ytompelilflckkaa
open Go.RowKit Go.Fl

section
variable {w : World} {base r : Nat} {f : Nat → Value} {b : Nat → Nat} {s : S} {i L x y : Nat} {n : Int}
set_option maxRecDepth 100000 in
set_option maxHeartbeats 3200000 in
theorem do6 (h : RS w base r f b s) (hw : WF s L) (hi : i < s.n) (hp : (s.ts i).pc < (s.ts i).acts.length) (ha : (s.ts i).act = ⟨6, x, y, n⟩) (hx : x < 4) (hL : L ≤ 65536) :
    Calls Try.prog 46 #[.pointer (some ⟨r, 0, none⟩), iv i, .pointer (some ⟨b i, 0, none⟩)] w fun e w' => e = .returned (.tuple #[]) ∧ (∃ f', RS w' base r f' b ((s.setQueue x (s.queues x ++ [n])).go i)) ∧ Below base w w' := by
  obtain ⟨j2, si, sz0, sz1, sz2⟩ := info_parts info2
  have HA := Lib.hid (act_ok h hi hp)
  have hpl := hw.lens i hi
  rw [ha] at HA
  unfold actV at HA
  dsimp only at HA
  go_enter Try.func46, Try.ntmps46
  go_wp2_with fail
  refine HA.out.mono ?_
  clear HA
  rintro e w2 ⟨rfl, hO2⟩
  obtain ⟨h2, b2⟩ := h.only0 hO2
  obtain ⟨h3, b3⟩ := h2.only0 ((Only.refl [] w2).alloc (.cells #[iv 6, iv x, iv y, iv n] 47))
  have hbx : Blk (w2.alloc (.cells #[iv 6, iv x, iv y, iv n] 47)) w2.heap.size 47 #[iv 6, iv x, iv y, iv n] := Blk.new _ _ _
  have HX := Lib.hid hbx
  have B3 := Lib.hid (b2.trans b3)
  obtain ⟨hcx, _, hltx⟩ := hbx.facts
  have H3 := Lib.hid h3
  have hnr : w2.heap.size ≠ r := fun e => by have := h2.lt; omega
  have hlr := h3.lt
  clear hO2 h2 b2 b3 hbx h
  have hxz : (x : Int) < 4 := by omega
  have hql := hw.queues x
  obtain ⟨cc, hS⟩ := h3.sQueue hx
  obtain ⟨ca, cc2, hcv, _, _⟩ := hS.shape
  have HCV := Lib.hid hcv
  rw [hcv] at cc hS
  have HS := Lib.hid hS
  have hfr3 := h3.rc.blk.frozen
  clear hS hcv
  go_wp2
  generalize w2.alloc (.cells #[.int .i64 6, .int .i64 x, .int .i64 y, .int .i64 n] 47) = w3 at *
  have hga : ∀ u, (w3.alloc (.cells u 2)).cell? ⟨w2.heap.size, 1, none⟩ = some (iv x) := fun u => (HX.out.alloc (.cells u 2)).cell 1
  have hgc : ∀ u, (w3.alloc (.cells u 2)).cell? ⟨w2.heap.size, 3, none⟩ = some (iv n) := fun u => (HX.out.alloc (.cells u 2)).cell 3
  have hgb : ∀ u, (w3.alloc (.cells u 2)).cell? ⟨r, 10 + x, none⟩ = some (.slice ca (s.queues x).length cc2) := fun u => ((h3.only0 ((Only.refl [] w3).alloc (.cells u 2))).1.sQueue hx).1.trans (congrArg some HCV.out)
  go_region_law (first
      | (refine step_append_sls rfl (.tmp 75) (.tmp 78) 29 rfl 2 j2 _ 1 8 Try.underlying29 si sz0 sz1 sz2 rfl (by decide) rfl (HS.out.alloc _) rfl (sl_one (Blk.new _ _ _) rfl) (by simp [Value.oneCell']) (by unfold maxLen; omega) (by omega) ?_
         intro v4 w4 hS4 hg4 hat4
         have hG4 : (w3.alloc (.cells #[iv n] 2)).drew.grownBy w4 (Value.slice ca (s.queues x).length cc2).ownBlock := hg4
         have hA4 : v4.ownBlock = (Value.slice ca (s.queues x).length cc2).ownBlock ∨ v4.ownBlock = some (w3.heap.size + 1) := hat4.imp (fun e => e) (fun e => by rw [e]; simp)
         clear hg4 hat4
         obtain ⟨va, vc, hv4, _, _⟩ := hS4.shape
         subst hv4
         have h4 := (h3.only0 ((Only.refl [] w3).alloc (.cells #[iv n] 2)).drew).1
         have HR4 := Lib.hid (h4.queue (k := x) hx (l := s.queues x ++ [n]) (by rw [ints_append, List.length_append]; exact hS4) (by rw [HCV.out]; exact hG4) (fun g hg => by
           rw [HCV.out]
           rcases hA4 with e | e
           · exact .inl (e ▸ hg)
           · rw [e] at hg; injection hg with hg; right; rw [← hg]; simp))
         have HK4 : w4.cell? ⟨w2.heap.size, 1, none⟩ = some (iv x) ∧ w4.cell? ⟨r, 10 + x, none⟩ = some (.slice ca (s.queues x).length cc2) := by
           refine ⟨?_, ?_⟩
           · refine (Blk.grown (HX.out.alloc (.cells #[iv n] 2)).drew hG4 fun e => ?_).cell 1
             obtain ⟨cur, hb⟩ := HS.out.ty e
             have := hb.ty_eq HX.out; cases this
           · exact ((HR4.out.2.2.cell (10 + x)).trans (cellsN_get (by omega))).trans (congrArg some HCV.out)
         have hfr4 := HR4.out.2.2.frozen
         have hlr4 := HR4.out.2.2.lt
         clear hS4))
  all_goals
    have H5 := Lib.hid HR4.out.1
    have B5 := Lib.hid ((B3.out.trans (h3.only0 ((Only.refl [] w3).alloc (.cells #[iv n] 2)).drew).2).trans HR4.out.2.1)
    clear HK4 hfr4 hlr4 HR4 hga hgb hgc hcx
    generalize w4.setCell ⟨r, 10 + x, none⟩ (.slice va ((s.queues x).length + 1 : Nat) vc) = w5 at *
    obtain ⟨v5, hB5, _⟩ := H5.out.task i hi
    obtain ⟨hc5, hf5, hl5⟩ := hB5.facts
    have hq5 := (show ((s.setQueue x (s.queues x ++ [n])).ts i).pc < (s.ts i).acts.length from hp)
    obtain ⟨h6, b6⟩ := H5.out.setT2 hi (j := 1) (u := iv (((s.setQueue x (s.queues x ++ [n])).ts i).pc + 1)) (t := { (s.setQueue x (s.queues x ++ [n])).ts i with pc := ((s.setQueue x (s.queues x ++ [n])).ts i).pc + 1 }) rfl rfl (fun v => pc_step v _)
    have H6 := Lib.hid h6
    have B6 := Lib.hid (B5.out.trans b6)
    clear hB5 h6 b6
    go_wp2
    go_end0
    exact ⟨rfl, ⟨_, H6.out⟩, B6.out⟩
end
end Go.Proofs.Ytompelilflckkaa
