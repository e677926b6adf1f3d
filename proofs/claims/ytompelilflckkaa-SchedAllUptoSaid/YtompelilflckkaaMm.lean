/-
  The scheduler: steps, one behind the other.
-/
import Derived.Test.YtompelilflckkaaMl
set_option linter.unusedSimpArgs false
set_option linter.unusedVariables false
namespace Go.Proofs.Ytompelilflckkaa
open Go.RowKit Go.Fl

theorem ready_mem {s : S} {i : Nat} (h : i ∈ ready s) : i < s.n ∧ how s (s.ts i) = 3 := by
  unfold ready at h
  rw [List.mem_filter] at h
  exact ⟨List.mem_range.1 h.1, by simpa using h.2⟩
theorem ready_len (s : S) : (ready s).length ≤ s.n := by
  have := List.length_filter_le (fun i => decide (how s (s.ts i) = 3)) (List.range s.n)
  rwa [List.length_range] at this
theorem getD_mem {l : List Nat} {k : Nat} (h : k < l.length) : l.getD k 0 ∈ l := by
  rw [List.getD_eq_getElem?_getD, List.getElem?_eq_getElem h]
  exact List.getElem_mem h
theorem next_mem {s : S} {l picks : List Nat} (h : l ≠ []) : next s l picks ∈ l := by
  have hl : 0 < l.length := List.length_pos_iff.2 h
  unfold next
  by_cases hk : s.trace.length < picks.length
  · rw [dif_pos hk]
    exact getD_mem (Nat.mod_lt _ hl)
  · rw [dif_neg hk]
    cases hf : l.find? (fun (i : Nat) => decide (s.last < (i : Int))) with
    | none => exact getD_mem hl
    | some i => exact List.mem_of_find?_eq_some hf

/-- How long the trace is. -/
def trl (w : World) (r : Nat) : Nat := match w.cell? ⟨r, 23, none⟩ with | some (.slice _ n _) => n | _ => 0
theorem RS.trl {w : World} {base r : Nat} {f : Nat → Value} {b : Nat → Nat} {s : S} (h : RS w base r f b s) : trl w r = s.trace.length := by
  obtain ⟨c, hS⟩ := h.sTrace
  obtain ⟨a, cp, hv, _, _⟩ := hS.shape
  unfold Go.Proofs.Ytompelilflckkaa.trl
  rw [c, hv]
theorem all_stop {picks : List Nat} {k : Nat} {s : S} (h : ready s = []) : all picks k s = s := by
  cases k with
  | zero => rfl
  | succ k => unfold all; rw [if_pos h]
theorem all_go {picks : List Nat} {k : Nat} {s : S} (h : ready s ≠ []) : all picks (k + 1) s = all picks k (step s (next s (ready s) picks)) := by
  conv => lhs; unfold all
  rw [if_neg h]
set_option maxRecDepth 100000 in
set_option maxHeartbeats 3200000 in
theorem all_ok {w : World} {base r : Nat} {f : Nat → Value} {b : Nat → Nat} {s : S} {pv : Value} {picks : List Nat} {most : Nat} (h : RS w base r f b s) (hw : WF s s.trace.length) (hp : Row natv w pv picks) (hpb : ∀ g, pv.ownBlock = some g → g < base) (hm : most ≤ 65536) (ht : s.trace.length ≤ most) :
    Calls Try.prog 30 #[.pointer (some ⟨r, 0, none⟩), pv, iv most] w fun e w' => e = .returned (.tuple #[]) ∧ (∃ f', RS w' base r f' b (all picks (most - s.trace.length) s)) ∧ Below base w w' := by
  obtain ⟨pa, pc, hpv, hpc, hpm, hpcc⟩ := hp
  subst hpv
  have HP : ∀ w', Below base w w' → Hid (Row natv w' (.slice pa picks.length pc) picks) := fun w' hb => Lib.hid (by
    refine ⟨pa, pc, rfl, hpc, hpm, fun h0 => ?_⟩
    obtain ⟨g, off, rfl, hg, hh⟩ := hpcc h0
    have hgb := hpb g rfl
    exact ⟨g, off, rfl, Nat.lt_of_lt_of_le hg hb.size, fun i hi => (World.cell?_of_block (w := w) (a := ⟨g, off + i, none⟩) (hb.block g hgb)).trans (hh i hi)⟩)
  have H := Lib.hid h
  clear hpcc hpb h
  go_enter Try.func30, Try.ntmps30
  go_wp2
  go_loopw [] (fun wr => ∃ s1 f1, Hid (RS wr base r f1 b s1) ∧ Hid (WF s1 s1.trace.length) ∧ s1.trace.length ≤ most ∧ Hid (all picks (most - s1.trace.length) s1 = all picks (most - s.trace.length) s) ∧ Hid (Below base w wr)) (fun wr => most - trl wr r)
  case atStart => exact ⟨s, f, H, Lib.hid hw, ht, Lib.hid rfl, Lib.hid (Below.refl _ _)⟩
  case round =>
    obtain ⟨s1, f1, H1, HW, ht1, HE, HB⟩ := hrel
    obtain ⟨ct, hS⟩ := H1.out.sTrace
    obtain ⟨ta, tc, htv, _, _⟩ := hS.shape
    rw [htv] at ct
    have HTL := Lib.hid H1.out.trl
    have hlr := H1.out.lt
    clear hS htv
    by_cases hlt : s1.trace.length < most
    · have hltz : (s1.trace.length : Int) < (most : Int) := by omega
      have HA := Lib.hid (ready_ok H1.out HW.out (by omega))
      go_wp2_with fail
      refine HA.out.mono ?_
      clear HA ct hlr
      rintro e w2 ⟨u, rfl, hS, _, hO⟩
      obtain ⟨ua, uc, huv, _, _⟩ := hS.shape
      have H2 := Lib.hid (H1.out.only0 hO).1
      have HB2 := Lib.hid (HB.out.trans (H1.out.only0 hO).2)
      by_cases hrd : ready s1 = []
      · rw [hrd, List.length_nil] at huv
        subst huv
        have HF := Lib.hid (all_stop (picks := picks) (k := most - s1.trace.length) hrd)
        clear hS hO hrd
        go_wp2
        refine bodyPost_ret (results_none rfl _ _ _) rfl ⟨rfl, ⟨f1, ?_⟩, HB2.out⟩
        rw [← HE.out, HF.out]
        exact H2.out
      · have hl : 0 < (ready s1).length := List.length_pos_iff.2 hrd
        have hz : (((ready s1).length : Int) == 0) = false := by simp; omega
        have hnm := next_mem (s := s1) (picks := picks) hrd
        obtain ⟨hin, hhow⟩ := ready_mem hnm
        have hrl := ready_len s1
        have hn16 := HW.out.n
        have HN := Lib.hid (next_ok H2.out hS hl (by omega) (HP _ HB2.out).out (by omega))
        have HG := Lib.hid (all_go (picks := picks) (k := most - s1.trace.length - 1) hrd)
        have HS := Lib.hid (step_ok HW.out hin hhow)
        rw [huv] at HN
        subst huv
        clear hS hO hrd hnm
        generalize hnx : next s1 (ready s1) picks = i at *
        go_wp2_with fail
        refine HN.out.mono ?_
        clear HN
        rintro e w3 ⟨rfl, hO⟩
        have H3 := Lib.hid (H2.out.only0 hO).1
        have HB3 := Lib.hid (HB2.out.trans (H2.out.only0 hO).2)
        have HST := Lib.hid (step_ok' H3.out HW.out (by omega) hin hhow (by omega))
        clear hO
        go_wp2_with fail
        refine HST.out.mono ?_
        clear HST
        rintro e w4 ⟨rfl, ⟨f4, hR⟩, hB⟩
        have H4 := Lib.hid hR
        have HB4 := Lib.hid (HB3.out.trans hB)
        have HTL4 := Lib.hid hR.trl
        obtain ⟨hw4, hn4, ht4⟩ := HS.out
        have hlen : (step s1 i).trace.length = s1.trace.length + 1 := by rw [ht4, List.length_append]; rfl
        have HW4 := Lib.hid (show WF (step s1 i) (step s1 i).trace.length by rw [hlen]; exact hw4)
        have HL4 := Lib.hid hlen
        have HE4 := Lib.hid (show all picks (most - (step s1 i).trace.length) (step s1 i) = all picks (most - s.trace.length) s by
          rw [← HE.out, hlen]
          have := HG.out
          rw [show most - s1.trace.length - 1 + 1 = most - s1.trace.length by omega] at this
          rw [this, Nat.sub_add_eq])
        clear hR hB hw4 hn4 ht4 hlen hnx
        go_wp2
        go_roundw
        case measure =>
          rw [HTL4.out, HTL.out, HL4.out]; omega
        case rel => exact ⟨step s1 i, f4, H4, HW4, by have := HL4.out; omega, HE4, HB4⟩
    · have hgez : (most : Int) ≤ (s1.trace.length : Int) := by omega
      have HF := Lib.hid (show all picks (most - s1.trace.length) s1 = s1 by rw [show most - s1.trace.length = 0 by omega]; rfl)
      go_wp2
      go_end0
      refine ⟨rfl, ⟨f1, ?_⟩, HB.out⟩
      rw [← HE.out, HF.out]
      exact H1.out
end Go.Proofs.Ytompelilflckkaa
/-
  The scheduler: a run ahead of its first step.
-/
namespace Go.Proofs.Ytompelilflckkaa
open Go.RowKit Go.Fl

/-- Tasks that were given. -/
def TasksV (base : Nat) (w : World) (tv : Value) (acts : List (List A)) : Prop :=
  ∃ a cap, tv = .slice a acts.length cap ∧ acts.length ≤ cap ∧ cap ≤ maxLen ∧ (0 < acts.length → ∃ g off, a = some ⟨g, off, none⟩ ∧ g < base ∧ g < w.heap.size ∧ ∀ i (h : i < acts.length), ∃ v, w.cell? ⟨g, off + i, none⟩ = some v ∧ ActsV base w v acts[i])
theorem TasksV.below {base : Nat} {w w' : World} {tv : Value} {acts : List (List A)} (h : TasksV base w tv acts) (hb : Below base w w') : TasksV base w' tv acts := by
  obtain ⟨a, cap, rfl, h1, h2, h3⟩ := h
  refine ⟨a, cap, rfl, h1, h2, fun h0 => ?_⟩
  obtain ⟨g, off, rfl, hg, hgs, hh⟩ := h3 h0
  refine ⟨g, off, rfl, hg, Nat.lt_of_lt_of_le hgs hb.size, fun i hi => ?_⟩
  obtain ⟨v, hv, ha⟩ := hh i hi
  exact ⟨v, (World.cell?_of_block (w := w) (a := ⟨g, off + i, none⟩) (hb.block g hg)).trans hv, ha.below hb⟩
theorem cellsN_of (cs : Array Value) : cs = cellsN cs.size (fun k => cs.getD k .nilIface) := by
  apply Array.ext_getElem?
  intro j
  by_cases hj : j < cs.size
  · rw [cellsN_get hj, Array.getD_eq_getD_getElem?, Array.getElem?_eq_getElem hj]; rfl
  · rw [Array.getElem?_eq_none (by omega), Array.getElem?_eq_none (by simp [cellsN]; omega)]
theorem ptrs_upd (b : Nat → Nat) (n g : Nat) : ptrs (upd b n g) (n + 1) = ptrs b n ++ [.pointer (some ⟨g, 0, none⟩)] := by
  unfold ptrs
  rw [List.range_succ, List.map_append, List.map_cons, List.map_nil, upd_same]
  congr 1
  apply List.map_congr_left
  intro i hi
  rw [upd_ne _ _ _ _ (by have := List.mem_range.1 hi; omega)]
theorem spec_begin (b b' : Nat → Nat) (l l' : List (List A)) (room : Int) {j : Nat} (hj : j ≠ 0) : spec b' (begin_ l' room) j = spec b (begin_ l room) j :=
  ite_cg (fun h => absurd h hj) fun _ => rfl
section
variable {w w1 w2 : World} {base r : Nat} {f : Nat → Value} {b : Nat → Nat}
theorem RS.addTask {l : List (List A)} {acts : List A} {room : Int} {g : Nat} {v v' : Value} (h : RS w1 base r f b (begin_ l room)) (hB : TaskB w1 g v ⟨acts, 0, -1, 0, false, 0⟩) (hA : ActsV base w1 v acts) (hg : base ≤ g) (hgn : ∀ i, i < l.length → b i ≠ g)
    (hS : Sl w2 77 1 v' (l.length + 1) (ptrs b l.length ++ [.pointer (some ⟨g, 0, none⟩)])) (hgr : w1.grownBy w2 (f 0).ownBlock) (hown : ∀ g, v'.ownBlock = some g → (f 0).ownBlock = some g ∨ w1.heap.size ≤ g) :
    RS (w2.setCell ⟨r, 0, none⟩ v') base r (upd f 0 v') (upd b l.length g) (begin_ (l ++ [acts]) room) ∧ Below base w1 (w2.setCell ⟨r, 0, none⟩ v') ∧ Blk w2 r 76 (cellsN 24 f) := by
  have e0 : spec (upd b l.length g) (begin_ (l ++ [acts]) room) 0 = .row 77 1 (l.length + 1) (ptrs b l.length ++ [.pointer (some ⟨g, 0, none⟩)]) := by
    show FS.row 77 1 (l ++ [acts]).length (ptrs _ (l ++ [acts]).length) = _
    rw [List.length_append, List.length_singleton, ptrs_upd]
  obtain ⟨h1, h2, h3, h4⟩ := h.rc.put (k := 0) (u := v') (sp' := spec (upd b l.length g) (begin_ (l ++ [acts]) room)) (by omega) hgr (by rw [e0]; exact hS) (fun e => by have := spec_elem e; omega) (fun g hg => by rw [e0] at hg; exact hown g hg) (fun j _ hj => spec_begin _ _ _ _ _ hj)
  have hkeep : ∀ {k : Nat} {u : Value} {t : T}, TaskB w1 k u t → TaskB (w2.setCell ⟨r, 0, none⟩ v') k u t := fun {k u t} hb => Blk.only hb h3 fun hm => by
    simp only [List.mem_cons, Option.mem_toList] at hm
    rcases hm with hm | hm
    · have := Blk.ty_eq (hm ▸ hb : Blk w1 r 80 _) h.rc.blk
      cases this
    · obtain ⟨e, cur, he, hb2⟩ := h.rc.ownty (by omega) hm
      have h7 : e = 80 := hb2.ty_eq hb
      have h8 := spec_elem he
      rw [h7] at h8
      simp at h8
  have hlen : (begin_ (l ++ [acts]) room).n = l.length + 1 := by show (l ++ [acts]).length = _; simp
  refine ⟨⟨h1, fun i hi => ?_, fun i hi => ?_, fun i j hi hj hij => ?_⟩, h2, h4⟩
  · rw [hlen] at hi
    by_cases hil : i = l.length
    · subst hil
      rw [upd_same]
      have e : (begin_ (l ++ [acts]) room).ts l.length = ⟨acts, 0, -1, 0, false, 0⟩ := by
        show (⟨(l ++ [acts]).getD l.length [], 0, -1, 0, false, 0⟩ : T) = _
        rw [List.getD_eq_getElem?_getD, List.getElem?_append_right (Nat.le_refl _), Nat.sub_self]; rfl
      rw [e]
      exact ⟨v, hkeep hB, hA.below h2⟩
    · have hi2 : i < l.length := by omega
      rw [upd_ne _ _ _ _ hil]
      have e : (begin_ (l ++ [acts]) room).ts i = (begin_ l room).ts i := by
        show (⟨(l ++ [acts]).getD i [], 0, -1, 0, false, 0⟩ : T) = ⟨l.getD i [], 0, -1, 0, false, 0⟩
        rw [List.getD_eq_getElem?_getD, List.getElem?_append_left hi2, List.getD_eq_getElem?_getD]
      rw [e]
      obtain ⟨v2, h5, h6⟩ := h.task i hi2
      exact ⟨v2, hkeep h5, h6.below h2⟩
  · rw [hlen] at hi
    by_cases hil : i = l.length
    · subst hil; rw [upd_same]; exact hg
    · rw [upd_ne _ _ _ _ hil]; exact h.tb i (show i < l.length by omega)
  · rw [hlen] at hi hj
    by_cases hil : i = l.length
    · subst hil
      rw [upd_same, upd_ne _ _ _ _ (fun e => hij e.symm)]
      exact fun e => hgn j (by omega) e.symm
    · rw [upd_ne _ _ _ _ hil]
      by_cases hjl : j = l.length
      · subst hjl; rw [upd_same]; exact hgn i (by omega)
      · rw [upd_ne _ _ _ _ hjl]
        exact h.bdis i j (show i < l.length by omega) (show j < l.length by omega) hij
end
end Go.Proofs.Ytompelilflckkaa
/-
  The scheduler: begun.
-/
namespace Go.Proofs.Ytompelilflckkaa
open Go.RowKit Go.Fl

theorem info77 : (Try.prog.info? 77).map (fun i => (i.zero, i.size, i.bytes)) = some (some (.pointer none), 1, 8) := by kernel_rfl
def cells0 (room : Int) : Array Value := #[.slice none 0 0, iv room, iv (-1), iv (-1), iv (-1), iv (-1), .slice none 0 0, .slice none 0 0, .slice none 0 0, .slice none 0 0, .slice none 0 0, .slice none 0 0, .slice none 0 0, .slice none 0 0,
  iv 0, iv 0, iv 0, iv 0, iv 0, iv 0, iv 0, iv 0, iv (-1), .slice none 0 0]
def f0 (room : Int) : Nat → Value := fun k => (cells0 room).getD k .nilIface
theorem rs0 {w : World} {base r : Nat} {room : Int} {b : Nat → Nat} (h : Blk w r 76 (cells0 room)) (hr : base ≤ r) : RS w base r (f0 room) b (begin_ [] room) := by
  have hc : ∀ k, k < 24 → f0 room k = match spec b (begin_ [] room) k with | .val u => u | .row _ _ _ _ => .slice none 0 0 := fun k hk => by
    have : k = 0 ∨ k = 1 ∨ k = 2 ∨ k = 3 ∨ k = 4 ∨ k = 5 ∨ k = 6 ∨ k = 7 ∨ k = 8 ∨ k = 9 ∨ k = 10 ∨ k = 11 ∨ k = 12 ∨ k = 13 ∨ k = 14 ∨ k = 15 ∨ k = 16 ∨ k = 17 ∨ k = 18 ∨ k = 19 ∨ k = 20 ∨ k = 21 ∨ k = 22 ∨ k = 23 := by omega
    rcases this with rfl | rfl | rfl | rfl | rfl | rfl | rfl | rfl | rfl | rfl | rfl | rfl | rfl | rfl | rfl | rfl | rfl | rfl | rfl | rfl | rfl | rfl | rfl | rfl <;> rfl
  have hz : ∀ k, k < 24 → ∀ e size n xs, spec b (begin_ [] room) k = .row e size n xs → n = 0 ∧ xs = [] := fun k hk e size n xs he => by
    have : k = 0 ∨ k = 1 ∨ k = 2 ∨ k = 3 ∨ k = 4 ∨ k = 5 ∨ k = 6 ∨ k = 7 ∨ k = 8 ∨ k = 9 ∨ k = 10 ∨ k = 11 ∨ k = 12 ∨ k = 13 ∨ k = 14 ∨ k = 15 ∨ k = 16 ∨ k = 17 ∨ k = 18 ∨ k = 19 ∨ k = 20 ∨ k = 21 ∨ k = 22 ∨ k = 23 := by omega
    rcases this with rfl | rfl | rfl | rfl | rfl | rfl | rfl | rfl | rfl | rfl | rfl | rfl | rfl | rfl | rfl | rfl | rfl | rfl | rfl | rfl | rfl | rfl | rfl | rfl <;> first | (injection he with _ _ h1 h2; exact ⟨h1.symm, h2.symm⟩) | cases he
  have hown : ∀ k, k < 24 → ∀ g, (spec b (begin_ [] room) k).own (f0 room k) ≠ some g := fun k hk g hg => by
    have h1 := hc k hk
    cases hs : spec b (begin_ [] room) k with
    | val u => rw [hs] at hg; cases hg
    | row e size n xs => rw [hs] at hg h1; rw [h1] at hg; cases hg
  refine ⟨⟨?_, hr, fun k hk => ?_, fun k hk e => ?_, fun k hk g hg => absurd hg (hown k hk g), fun j k hj hk _ g hg => absurd hg (hown j hj g)⟩, fun i hi => absurd hi (Nat.not_lt_zero i), fun i hi => absurd hi (Nat.not_lt_zero i), fun i j hi => absurd hi (Nat.not_lt_zero i)⟩
  · have := cellsN_of (cells0 room)
    rw [this] at h
    exact h
  · have h1 := hc k hk
    cases hs : spec b (begin_ [] room) k with
    | val u => rw [hs] at h1; exact h1
    | row e size n xs =>
      rw [hs] at h1
      obtain ⟨rfl, rfl⟩ := hz k hk e size n xs hs
      show Sl w e size (f0 room k) 0 []
      rw [h1]
      exact Sl.nil _ _ _
  · have := spec_elem e; omega

set_option maxRecDepth 100000 in
set_option maxHeartbeats 3200000 in
theorem begun_run {w : World} {tv : Value} {acts : List (List A)} {room : Int} (h : TasksV w.heap.size w tv acts) (hn : acts.length ≤ 16) :
    Calls Try.prog 29 #[tv, iv room] w fun e w' => ∃ r f b, e = .returned (.pointer (some ⟨r, 0, none⟩)) ∧ RS w' w.heap.size r f b (begin_ acts room) ∧ Below w.heap.size w w' := by
  obtain ⟨j77, si, sz0, sz1, sz2⟩ := info_parts info77
  have H := Lib.hid h
  obtain ⟨a, c, hv, hc, hcm, _⟩ := h
  subst hv
  go_enter Try.func29, Try.ntmps29
  go_wp2
  refine wp_loop_rounds 5 ?_
  rw [rounds_succ]
  go_wp2
  rw [rounds_succ]
  go_wp2
  rw [rounds_succ]
  go_wp2
  rw [rounds_succ]
  go_wp2
  rw [rounds_succ]
  go_wp2
  have hb0 : Blk (w.alloc (.cells (cells0 room) 76)) w.heap.size 76 (cells0 room) := Blk.new _ _ _
  have hB0 : Below w.heap.size w (w.alloc (.cells (cells0 room) 76)) := Below.of_only ((Only.refl [] w).alloc _) (Nat.le_refl _)
  go_loopw [23] (fun z wr => ∃ (k : Nat) (f : Nat → Value) (b : Nat → Nat), k ≤ acts.length ∧ z = .int .i64 k ∧ Hid (RS wr w.heap.size w.heap.size f b (begin_ (acts.take k) room)) ∧ Hid (Below w.heap.size w wr)) (fun z _ => acts.length - (intOf z).toNat)
  case atStart => exact ⟨0, f0 room, fun _ => 0, Nat.zero_le _, rfl, Lib.hid (rs0 hb0 (Nat.le_refl _)), Lib.hid hB0⟩
  case round =>
    obtain ⟨k, f, b, hk, rfl, HR, HB⟩ := hrel
    clear hb0 hB0
    by_cases hkl : k < acts.length
    · have hkz : (k : Int) < (acts.length : Int) := by omega
      obtain ⟨a', c', hv', _, _, hcell⟩ := H.out.below HB.out
      obtain ⟨g, off, ha, hgb, hg, hcc⟩ := hcell (by omega)
      injection hv' with e1 e2 e3
      subst e1
      subst e3
      subst ha
      clear e2
      obtain ⟨v, cv, hA⟩ := hcc k hkl
      obtain ⟨va, vc, hva, _, _, _⟩ := id hA
      have HA := Lib.hid hA
      have hlk : (acts.take k).length = k := by rw [List.length_take]; omega
      obtain ⟨c0, hS⟩ := HR.out.sTasks
      have hS : Sl wr 77 1 (f 0) k (ptrs b k) := by
        have : (begin_ (acts.take k) room).n = k := hlk
        rw [this] at hS
        exact hS
      obtain ⟨ta, tc, htv, _, _⟩ := hS.shape
      have HTV := Lib.hid htv
      rw [htv] at c0 hS
      have HS := Lib.hid hS
      have hlr := HR.out.lt
      have hfr := HR.out.rc.blk.frozen
      subst hva
      obtain ⟨x, hx⟩ : ∃ x, acts[k] = x := ⟨_, rfl⟩
      rw [hx] at HA cv
      clear hcell hcc hA hS htv hlk
      have hnb : Blk ((wr.alloc (.cells #[.slice va x.length vc, iv 0, iv (-1), iv 0, .bool false, iv 0] 80)).alloc (.cells #[.pointer (some ⟨wr.heap.size, 0, none⟩)] 77)) (wr.heap.size + 1) 77 #[.pointer (some ⟨wr.heap.size, 0, none⟩)] := by
        have := Blk.new (wr.alloc (.cells #[.slice va x.length vc, iv 0, iv (-1), iv 0, .bool false, iv 0] 80)) 77 #[.pointer (some ⟨wr.heap.size, 0, none⟩)]
        simpa using this
      go_wp2_with (at_builtin; refine wpList_append_one (news := [.pointer (some ⟨wr.heap.size, 0, none⟩)]) rfl (.tmp 31) (.tmp 35) 74 rfl 77 j77 _ 1 8 Try.underlying74 si sz0 sz1 sz2 rfl (by decide) rfl ((HS.out.alloc _).alloc _) rfl hnb rfl (by simp [Value.oneCell']) (by unfold maxLen; omega) (by omega) ?_)
      intro v2 w2 hS2 hg2 hat2
      have hO := (((Only.refl [] wr).alloc (.cells #[.slice va x.length vc, iv 0, iv (-1), iv 0, .bool false, iv 0] 80)).alloc (.cells #[.pointer (some ⟨wr.heap.size, 0, none⟩)] 77))
      obtain ⟨hW, bW⟩ := HR.out.only0 hO
      have hlk : (acts.take k).length = k := by rw [List.length_take]; omega
      obtain ⟨h3, b3, hblk⟩ := hW.addTask (g := wr.heap.size) (v := .slice va x.length vc) (v' := v2) (acts := x) ((Blk.new wr 80 _).alloc _) (HA.out.below (Below.of_only hO HB.out.size)) HB.out.size (fun i hi e => by
        obtain ⟨v0, hb0, _⟩ := HR.out.task i hi
        have := hb0.lt
        omega) (w2 := w2) (by rw [hlk]; exact hS2) (by rw [HTV.out]; exact hg2) (fun g hg => by
        rw [HTV.out]
        rcases hat2 with e | e
        · exact .inl (e ▸ hg)
        · rw [e] at hg; injection hg with hg; right; rw [← hg]; first | exact Nat.le_refl _ | simp)
      have he : acts.take (k + 1) = acts.take k ++ [x] := by rw [List.take_succ_eq_append_getElem hkl, hx]
      rw [← he, hlk] at h3
      obtain ⟨vb, vcc, hv2, _, _⟩ := hS2.shape
      subst hv2
      have H3 := Lib.hid h3
      have HB3 := Lib.hid ((HB.out.trans bW).trans b3)
      have hc2 := (hblk.cell 0).trans (cellsN_get (by omega))
      rw [HTV.out] at hc2
      have hfr2 := hblk.frozen
      have hlr2 := hblk.lt
      clear hS2 hg2 hat2 hO hW bW h3 b3 hblk he hnb c0 hlr hfr cv hx hlk
      go_wp2
      go_roundw
      case measure => simp [intOf]; omega
      case rel => exact ⟨k + 1, _, _, by omega, by go_num, H3, HB3⟩
    · obtain rfl : k = acts.length := by omega
      rw [List.take_length] at HR
      go_wp2
      refine bodyPost_ret (results_tmp rfl _ _ _) rfl ⟨_, _, _, rfl, HR.out, HB.out⟩
end Go.Proofs.Ytompelilflckkaa
