/-
  The scheduler: steps, one behind the other.
-/
import Derived.Test.YtompelilflckkaaSq
namespace Go.Proofs.Ytompelilflckkaa
open Go.RowKit Go.Fl

theorem ready_mem {s : S} {i : Nat} (h : i ∈ ready s) : i < s.n ∧ how s (s.ts i) = 3 := by
  unfold ready at h
  rw [List.mem_filter] at h
  exact ⟨List.mem_range.1 h.1, by simpa using h.2⟩
theorem ready_len (s : S) : (ready s).length ≤ s.n := by
  have := List.length_filter_le (fun i => decide (how s (s.ts i) = 3)) (List.range s.n)
  rwa [List.length_range] at this
theorem getD_mem {l : List Nat} {k : Nat} (h : k < l.length) : l.getD k 0 ∈ l := by
  rw [List.getD_eq_getElem?_getD, List.getElem?_eq_getElem h]
  exact List.getElem_mem h
theorem next_mem {s : S} {l picks : List Nat} (h : l ≠ []) : next s l picks ∈ l := by
  have hl : 0 < l.length := List.length_pos_iff.2 h
  unfold next
  by_cases hk : s.trace.length < picks.length
  · rw [dif_pos hk]
    exact getD_mem (Nat.mod_lt _ hl)
  · rw [dif_neg hk]
    cases hf : l.find? (fun (i : Nat) => decide (s.last < (i : Int))) with
    | none => exact getD_mem hl
    | some i => exact List.mem_of_find?_eq_some hf

/-- How long the trace is. -/
def trl (w : World) (r : Nat) : Nat := match w.cell? ⟨r, 23, none⟩ with | some (.slice _ n _) => n | _ => 0
theorem RS.trl {w : World} {base r : Nat} {f : Nat → Value} {b : Nat → Nat} {s : S} (h : RS w base r f b s) : trl w r = s.trace.length := by
  obtain ⟨c, hS⟩ := h.sTrace
  obtain ⟨a, cp, hv, _, _⟩ := hS.shape
  unfold Go.Proofs.Ytompelilflckkaa.trl
  rw [c, hv]
theorem all_stop {picks : List Nat} {k : Nat} {s : S} (h : ready s = []) : all picks k s = s := by
  cases k with
  | zero => rfl
  | succ k => unfold all; rw [if_pos h]
theorem all_go {picks : List Nat} {k : Nat} {s : S} (h : ready s ≠ []) : all picks (k + 1) s = all picks k (step s (next s (ready s) picks)) := by
  conv => lhs; unfold all
  rw [if_neg h]
set_option maxRecDepth 100000 in
set_option maxHeartbeats 3200000 in
theorem all_ok {w : World} {base r : Nat} {f : Nat → Value} {b : Nat → Nat} {s : S} {pv : Value} {picks : List Nat} {most : Nat} (h : RS w base r f b s) (hw : WF s s.trace.length) (hp : Row natv w pv picks) (hpb : ∀ g, pv.ownBlock = some g → g < base) (hm : most ≤ 65536) (ht : s.trace.length ≤ most) :
    Calls Try.prog 30 #[.pointer (some ⟨r, 0, none⟩), pv, iv most] w fun e w' => e = .returned (.tuple #[]) ∧ (∃ f', RS w' base r f' b (all picks (most - s.trace.length) s)) ∧ Below base w w' := by
  obtain ⟨pa, pc, hpv, hpc, hpm, hpcc⟩ := hp
  subst hpv
  have HP : ∀ w', Below base w w' → Hid (Row natv w' (.slice pa picks.length pc) picks) := fun w' hb => Lib.hid (by
    refine ⟨pa, pc, rfl, hpc, hpm, fun h0 => ?_⟩
    obtain ⟨g, off, rfl, hg, hh⟩ := hpcc h0
    have hgb := hpb g rfl
    exact ⟨g, off, rfl, Nat.lt_of_lt_of_le hg hb.size, fun i hi => (World.cell?_of_block (w := w) (a := ⟨g, off + i, none⟩) (hb.block g hgb)).trans (hh i hi)⟩)
  have H := Lib.hid h
  clear hpcc hpb h
  go_enter Try.func30, Try.ntmps30
  go_wp2
  go_loopw [] (fun wr => ∃ s1 f1, Hid (RS wr base r f1 b s1) ∧ Hid (WF s1 s1.trace.length) ∧ s1.trace.length ≤ most ∧ Hid (all picks (most - s1.trace.length) s1 = all picks (most - s.trace.length) s) ∧ Hid (Below base w wr)) (fun wr => most - trl wr r)
  case atStart => exact ⟨s, f, H, Lib.hid hw, ht, Lib.hid rfl, Lib.hid (Below.refl _ _)⟩
  case round =>
    obtain ⟨s1, f1, H1, HW, ht1, HE, HB⟩ := hrel
    obtain ⟨ct, hS⟩ := H1.out.sTrace
    obtain ⟨ta, tc, htv, _, _⟩ := hS.shape
    rw [htv] at ct
    have HTL := Lib.hid H1.out.trl
    have hlr := H1.out.lt
    clear hS htv
    by_cases hlt : s1.trace.length < most
    · have hltz : (s1.trace.length : Int) < (most : Int) := by omega
      have HA := Lib.hid (ready_ok H1.out HW.out (by omega))
      go_wp2_with fail
      refine HA.out.mono ?_
      clear HA ct hlr
      rintro e w2 ⟨u, rfl, hS, _, hO⟩
      obtain ⟨ua, uc, huv, _, _⟩ := hS.shape
      have H2 := Lib.hid (H1.out.only0 hO).1
      have HB2 := Lib.hid (HB.out.trans (H1.out.only0 hO).2)
      by_cases hrd : ready s1 = []
      · rw [hrd, List.length_nil] at huv
        subst huv
        have HF := Lib.hid (all_stop (picks := picks) (k := most - s1.trace.length) hrd)
        clear hS hO hrd
        go_wp2
        refine bodyPost_ret (results_none rfl _ _ _) rfl ⟨rfl, ⟨f1, ?_⟩, HB2.out⟩
        rw [← HE.out, HF.out]
        exact H2.out
      · have hl : 0 < (ready s1).length := List.length_pos_iff.2 hrd
        have hz : (((ready s1).length : Int) == 0) = false := by simp; omega
        have hnm := next_mem (s := s1) (picks := picks) hrd
        obtain ⟨hin, hhow⟩ := ready_mem hnm
        have hrl := ready_len s1
        have hn16 := HW.out.n
        have HN := Lib.hid (next_ok H2.out hS hl (by omega) (HP _ HB2.out).out (by omega))
        have HG := Lib.hid (all_go (picks := picks) (k := most - s1.trace.length - 1) hrd)
        have HS := Lib.hid (step_ok HW.out hin hhow)
        rw [huv] at HN
        subst huv
        clear hS hO hrd hnm
        generalize hnx : next s1 (ready s1) picks = i at *
        go_wp2_with fail
        refine HN.out.mono ?_
        clear HN
        rintro e w3 ⟨rfl, hO⟩
        have H3 := Lib.hid (H2.out.only0 hO).1
        have HB3 := Lib.hid (HB2.out.trans (H2.out.only0 hO).2)
        have HST := Lib.hid (step_ok' H3.out HW.out (by omega) hin hhow (by omega))
        clear hO
        go_wp2_with fail
        refine HST.out.mono ?_
        clear HST
        rintro e w4 ⟨rfl, ⟨f4, hR⟩, hB⟩
        have H4 := Lib.hid hR
        have HB4 := Lib.hid (HB3.out.trans hB)
        have HTL4 := Lib.hid hR.trl
        obtain ⟨hw4, hn4, ht4⟩ := HS.out
        have hlen : (step s1 i).trace.length = s1.trace.length + 1 := by rw [ht4, List.length_append]; rfl
        have HW4 := Lib.hid (show WF (step s1 i) (step s1 i).trace.length by rw [hlen]; exact hw4)
        have HL4 := Lib.hid hlen
        have HE4 := Lib.hid (show all picks (most - (step s1 i).trace.length) (step s1 i) = all picks (most - s.trace.length) s by
          rw [← HE.out, hlen]
          have := HG.out
          rw [show most - s1.trace.length - 1 + 1 = most - s1.trace.length by omega] at this
          rw [this, Nat.sub_add_eq])
        clear hR hB hw4 hn4 ht4 hlen hnx
        go_wp2
        go_roundw
        case measure =>
          rw [HTL4.out, HTL.out, HL4.out]; omega
        case rel => exact ⟨step s1 i, f4, H4, HW4, by have := HL4.out; omega, HE4, HB4⟩
    · have hgez : (most : Int) ≤ (s1.trace.length : Int) := by omega
      have HF := Lib.hid (show all picks (most - s1.trace.length) s1 = s1 by rw [show most - s1.trace.length = 0 by omega]; rfl)
      go_wp2
      go_end0
      refine ⟨rfl, ⟨f1, ?_⟩, HB.out⟩
      rw [← HE.out, HF.out]
      exact H1.out
end Go.Proofs.Ytompelilflckkaa
