/-
  The scheduler: what is deferred behind a step.
-/
import Derived.Test.YtompelilflckkaaMk
import Derived.Tactics2
import Derived.Defers
import Derived.Recover
import Derived.Laws.Pointers
set_option linter.unusedSimpArgs false
set_option linter.unusedVariables false
namespace Go.Proofs.Ytompelilflckkaa
open Go.RowKit Go.Fl

theorem fr19 (a b x : Value) : (#[a, b] ++ ((Array.replicate 19 undef).setIfInBounds 3 x).setIfInBounds 0 x : Array Value) = #[a, b, x, undef, undef, x, undef, undef, undef, undef, undef, undef, undef, undef, undef, undef, undef, undef, undef, undef, undef] := by
  apply Array.ext'
  simp [List.replicate]
theorem assert95 (v : Value) (w : World) : (Instr.typeAssert (.iface 95 v) 20 95 true).run Try.prog w = .ok (.tuple #[v, .bool true]) w := by
  simp [Instr.typeAssert, run_underlying Try.underlying95]
set_option maxRecDepth 100000 in
theorem catch_idle (gr gt : Nat) (w : World) :
    CallsD Try.prog 44 #[.pointer (some ⟨gr, 0, none⟩), .pointer (some ⟨gt, 0, none⟩)] .returning w fun e u' w' => e = .returned (.tuple #[]) ∧ u' = .returning ∧ w' = w := by
  refine callsD_of_wpS Try.func44 rfl fun c₀ cs hu => ?_
  apply wpS_seq
  apply wpS_region
  simp [wpOpsS, go_sem, recoverD, hu, Try.ntmps44, Exit.thenS]
  rw [fr19]
  refine wpS_of_wp ?_
  go_wp2
  cases c₀
  simp_all [bodyPostS, results, Try.results44]
set_option maxRecDepth 100000 in
set_option maxHeartbeats 1600000 in
theorem catch_boom {w : World} {base r : Nat} {f : Nat → Value} {b : Nat → Nat} {s : S} {i L gr gt : Nat} (n : Int) (h : RS w base r f b s) (hw : WF s L) (hi : i < s.n) (hgr : Blk w gr 71 #[.pointer (some ⟨r, 0, none⟩)]) (hgt : Blk w gt 77 #[.pointer (some ⟨b i, 0, none⟩)]) :
    CallsD Try.prog 44 #[.pointer (some ⟨gr, 0, none⟩), .pointer (some ⟨gt, 0, none⟩)] (.panicking [{ v := boomV n, recovered := false }]) w fun e u' w' => e = .returned (.tuple #[]) ∧ u' = .panicking [{ v := boomV n, recovered := true }] ∧ (∃ f', RS w' base r f' b (caught s i n)) ∧ Below base w w' := by
  refine callsD_of_wpS Try.func44 rfl fun c₀ cs hu => ?_
  apply wpS_seq
  apply wpS_region
  simp [wpOpsS, go_sem, recoverD, hu, Try.ntmps44, Exit.thenS, boomV]
  rw [fr19]
  refine wpS_of_wp ?_
  obtain ⟨hcr, _, hlr⟩ := hgr.facts
  obtain ⟨hct, _, hlt⟩ := hgt.facts
  obtain ⟨h1, b1⟩ := h.only0 ((Only.refl [] w).alloc (.cells #[iv n] 95))
  have hC := Lib.hid (caught_ok' h1 hi (hw.guard i hi).1 n)
  have hta := assert95
  clear h h1
  go_wp2_with fail
  refine hC.out.mono ?_
  clear hC
  rintro e w2 ⟨rfl, hR, hB⟩
  have HR := Lib.hid hR
  have HB := Lib.hid (b1.trans hB)
  clear hR hB b1
  go_wp2
  simp [bodyPostS, results, Try.results44]
  exact ⟨HR.out, HB.out⟩
end Go.Proofs.Ytompelilflckkaa
/-
  The scheduler: a step.
-/
namespace Go.Proofs.Ytompelilflckkaa
open Go.RowKit Go.Fl

theorem sl_pair {w : World} {g e : Nat} {x y : Value} {c : Nat} (h : Blk w g e #[x, y]) (hc : c = 1) : Sl w e 2 (.slice (some ⟨g, 0, none⟩) 1 c) 1 [x, y] :=
  ⟨rfl, .inr ⟨g, 0, c, #[x, y], rfl, h, by omega, by rw [hc]; decide, by rw [hc]; simp, rfl⟩⟩
theorem how_mark (s : S) (i : Nat) (t : T) : how (mark s i) t = how s t := rfl
/-- What stands behind the trace's statement. -/
def StepMid (base r : Nat) (f : Nat → Value) (b : Nat → Nat) (s : S) (i gr gt g0 o0 c0 cc2 : Nat) (ca : Option Addr) (w3 : World) (e : Exit) (a : Act) (w' : World) : Prop :=
  ∃ va vc w4, e = .normal ∧ a = { tmps := #[.pointer (some ⟨r, 0, none⟩), iv i, .pointer (some ⟨gr, 0, none⟩), undef, .pointer (some ⟨gt, 0, none⟩), .pointer (some ⟨r, 0, none⟩), .pointer (some ⟨r, 0, none⟩), .pointer (some ⟨r, 0, none⟩),
      .slice (some ⟨g0, o0, none⟩) s.n c0, iv i, .pointer (some ⟨g0, o0 + i, none⟩), .pointer (some ⟨b i, 0, none⟩), .pointer (some ⟨r, 0, none⟩), .pointer (some ⟨r, 0, none⟩), .pointer (some ⟨r, 0, none⟩), .pointer (some ⟨r, 23, none⟩),
      .slice ca s.trace.length cc2, iv i, .pointer (some ⟨b i, 0, none⟩), .pointer (some ⟨b i, 0, none⟩), .pointer (some ⟨b i, 1, none⟩), iv (s.ts i).pc, .agg #[iv i, iv (s.ts i).pc], .slice (some ⟨w3.heap.size, 0, none⟩) 1 1,
      .slice va (s.trace.length + 1 : Nat) vc, .pointer (some ⟨r, 0, none⟩), .pointer (some ⟨r, 23, none⟩), undef, undef, undef, undef, undef, undef, undef, undef, undef], defers := [] } ∧
    w' = w4.setCell ⟨r, 23, none⟩ (.slice va (s.trace.length + 1 : Nat) vc) ∧ RS w' base r (upd f 23 (.slice va (s.trace.length + 1 : Nat) vc)) b { s with trace := s.trace ++ [(i, (s.ts i).pc)] } ∧ Below base w3 w' ∧
    Blk w4 gr 71 #[.pointer (some ⟨r, 0, none⟩)] ∧ Blk w4 gt 77 #[.pointer (some ⟨b i, 0, none⟩)]
set_option maxRecDepth 100000 in
set_option maxHeartbeats 6400000 in
theorem step_ok' {w : World} {base r : Nat} {f : Nat → Value} {b : Nat → Nat} {s : S} {i L : Nat} (h : RS w base r f b s) (hw : WF s L) (hL : L ≤ 65536) (hi : i < s.n) (hr : how s (s.ts i) = 3) (ht : s.trace.length ≤ 65536) :
    Calls Try.prog 40 #[.pointer (some ⟨r, 0, none⟩), iv i] w fun e w' => e = .returned (.tuple #[]) ∧ (∃ f', RS w' base r f' b (step s i)) ∧ Below base w w' := by
  have hmf : ∀ (fn : Fn) (first cap : Array Value) (w : World), (Instr.makeFunc fn first cap).run Try.prog w = .ok (.func fn first cap) w := fun _ _ _ _ => rfl
  obtain ⟨j39, si, sz0, sz1, sz2⟩ := info_parts info39
  have hn := hw.n
  obtain ⟨g0, o0, c0, hv0, hg0, hct⟩ := h.cTask hi
  have hc0 := h.sTasks.1
  rw [hv0] at hc0
  have hiz : (i : Int) < (s.n : Int) := by omega
  have hlr := h.lt
  have hlg : g0 < w.heap.size := hg0
  have HR := Lib.hid hr
  obtain ⟨h1, b1⟩ := h.only0 (((Only.refl [] w).alloc (.cells #[.pointer (some ⟨r, 0, none⟩)] 71)).alloc (.cells #[.pointer (some ⟨b i, 0, none⟩)] 77))
  have hgr : Blk ((w.alloc (.cells #[.pointer (some ⟨r, 0, none⟩)] 71)).alloc (.cells #[.pointer (some ⟨b i, 0, none⟩)] 77)) w.heap.size 71 #[.pointer (some ⟨r, 0, none⟩)] := (Blk.new _ _ _).alloc _
  have hgt : Blk ((w.alloc (.cells #[.pointer (some ⟨r, 0, none⟩)] 71)).alloc (.cells #[.pointer (some ⟨b i, 0, none⟩)] 77)) (w.heap.size + 1) 77 #[.pointer (some ⟨b i, 0, none⟩)] := by
    have := Blk.new (w.alloc (.cells #[.pointer (some ⟨r, 0, none⟩)] 71)) 77 #[.pointer (some ⟨b i, 0, none⟩)]
    simpa using this
  have H1 := Lib.hid h1
  have HGR := Lib.hid hgr
  have HGT := Lib.hid hgt
  clear hv0 hr h1 hgr hgt
  go_enter_defers Try.func40, Try.ntmps40
  go_wp2
  generalize (w.alloc (.cells #[.pointer (some ⟨r, 0, none⟩)] 71)).alloc (.cells #[.pointer (some ⟨b i, 0, none⟩)] 77) = w3 at *
  clear hc0 hct hlr hlg hg0
  generalize w.heap.size + 1 = gt at *
  generalize w.heap.size = gr at *
  obtain ⟨hcr, _, hlr⟩ := HGR.out.facts
  obtain ⟨hctt, _, hlt⟩ := HGT.out.facts
  obtain ⟨v, hB, _⟩ := H1.out.task i hi
  obtain ⟨hcell, hfr, hlb⟩ := hB.facts
  obtain ⟨cc, hS⟩ := H1.out.sTrace
  obtain ⟨ca, cc2, hcv, _, _⟩ := hS.shape
  have HCV := Lib.hid hcv
  rw [hcv] at cc hS
  have HS := Lib.hid hS
  have hlrr := H1.out.lt
  clear hB hS hcv
  have hga : ∀ u, (w3.alloc (.cells u 39)).cell? ⟨gr, 0, none⟩ = some (.pointer (some ⟨r, 0, none⟩)) := fun u => (HGR.out.alloc (.cells u 39)).cell 0
  have hgc : ∀ u, (w3.alloc (.cells u 39)).cell? ⟨gt, 0, none⟩ = some (.pointer (some ⟨b i, 0, none⟩)) := fun u => (HGT.out.alloc (.cells u 39)).cell 0
  have hgb : ∀ u, (w3.alloc (.cells u 39)).cell? ⟨r, 23, none⟩ = some (.slice ca s.trace.length cc2) := fun u => ((H1.out.only0 ((Only.refl [] w3).alloc (.cells u 39))).1.sTrace).1.trans (congrArg some HCV.out)
  refine Code.wp_mono (Q := StepMid base r f b s i gr gt g0 o0 c0 cc2 ca w3) ?_ ?_
  · rintro e a w5 ⟨va, vc, w4, rfl, rfl, hw5, h5, b5, hgr4, hgt4⟩
    have hgr5 : Blk w5 gr 71 #[.pointer (some ⟨r, 0, none⟩)] := by
      rw [hw5]
      exact hgr4.far (p := ⟨r, 23, none⟩) (fun e => by have := HGR.out.ne_ H1.out.rc.blk (by decide); exact this e) _
    have hgt5 : Blk w5 gt 77 #[.pointer (some ⟨b i, 0, none⟩)] := by
      rw [hw5]
      exact hgt4.far (p := ⟨r, 23, none⟩) (fun e => by have := HGT.out.ne_ H1.out.rc.blk (by decide); exact this e) _
    clear hw5 hgr4 hgt4 hcr hlr hctt hlt hcell hfr hlb cc hlrr hga hgc hgb HS HCV
    obtain ⟨hcr, _, hlr⟩ := hgr5.facts
    obtain ⟨hctt, _, hlt⟩ := hgt5.facts
    have cl := h5.cLast
    have hfr := h5.rc.blk.frozen
    have hlrr := h5.lt
    have hn1 := HGR.out.ne_ H1.out.rc.blk (by decide)
    have hn2 := HGT.out.ne_ H1.out.rc.blk (by decide)
    obtain ⟨h6, b6⟩ := h5.last i
    have HGR6 := Lib.hid (hgr5.far (p := ⟨r, 22, none⟩) hn1 (iv i))
    have HGT6 := Lib.hid (hgt5.far (p := ⟨r, 22, none⟩) hn2 (iv i))
    have H6 := Lib.hid h6
    have B6 := Lib.hid ((b1.trans b5).trans b6)
    have HD := Lib.hid (do_ok (s := mark s i) h6 hw.mark hL hi HR.out)
    clear h5 h6 b5 b6 b1 hgr5 hgt5
    go_wp2_with fail
    refine HD.out.mono ?_
    clear HD
    intro e w7 hd
    have HE := Lib.hid (show step s i = match doM (mark s i) i with
      | .ok s2 => s2
      | .error n => caught (mark s i) i n from rfl)
    cases hdm : doM (mark s i) i with
    | ok s2 =>
      rw [hdm] at hd HE
      obtain ⟨rfl, hR, hB⟩ := hd
      have HR7 := Lib.hid hR
      have B7 := Lib.hid (B6.out.trans hB)
      clear hR hB hdm
      go_wp2
      refine leaves_cons (f := 44) (args := #[.pointer (some ⟨gr, 0, none⟩), .pointer (some ⟨gt, 0, none⟩)]) (by simp) (by simp [go_sem]) ?_
      refine (catch_idle gr gt w7).mono ?_
      rintro e u' w8 ⟨rfl, rfl, rfl⟩
      simp [Leaves, settle, results, Try.results40, go_sem]
      exact ⟨by rw [HE.out]; exact HR7.out, B7.out⟩
    | error n =>
      rw [hdm] at hd HE
      obtain ⟨rfl, ⟨f7, hR⟩, hO⟩ := hd
      have hgr7 := HGR6.out.only hO (by simp)
      have hgt7 := HGT6.out.only hO (by simp)
      have B7 := Lib.hid (B6.out.trans (H6.out.only0 hO).2)
      have HC := Lib.hid (catch_boom n hR hw.mark hi hgr7 hgt7)
      clear hR hO hdm hgr7 hgt7
      go_wp2
      refine leaves_cons (f := 44) (args := #[.pointer (some ⟨gr, 0, none⟩), .pointer (some ⟨gt, 0, none⟩)]) (by simp) (by simp [go_sem]) ?_
      refine HC.out.mono ?_
      rintro e u' w8 ⟨rfl, rfl, hR, hB⟩
      simp [Leaves, settle, results, Try.results40, go_sem]
      exact ⟨by rw [HE.out]; exact hR, B7.out.trans hB⟩
  · refine wp_region_noPanic ?_
    go_region_law (first
        | (refine step_append_sls rfl (.tmp 16) (.tmp 23) 28 rfl 39 j39 _ 2 16 Try.underlying28 si sz0 sz1 sz2 rfl (by decide) rfl (HS.out.alloc _) rfl (sl_pair (Blk.new _ _ _) rfl) (by simp [Value.oneCell']) (by unfold maxLen; omega) (by omega) ?_
           intro v4 w4 hS4 hg4 hat4
           have hG4 : (w3.alloc (.cells #[iv i, iv (s.ts i).pc] 39)).drew.grownBy w4 (Value.slice ca s.trace.length cc2).ownBlock := hg4
           have hA4 : v4.ownBlock = (Value.slice ca s.trace.length cc2).ownBlock ∨ v4.ownBlock = some (w3.heap.size + 1) := hat4.imp (fun e => e) (fun e => by rw [e]; simp)
           clear hg4 hat4
           obtain ⟨va, vc, hv4, _, _⟩ := hS4.shape
           subst hv4
           have h4 := (H1.out.only0 ((Only.refl [] w3).alloc (.cells #[iv i, iv (s.ts i).pc] 39)).drew).1
           have HR4 := Lib.hid (h4.trace (l := s.trace ++ [(i, (s.ts i).pc)]) (by rw [turns_append, List.length_append]; exact hS4) (by rw [HCV.out]; exact hG4) (fun g hg => by
             rw [HCV.out]
             rcases hA4 with e | e
             · exact .inl (e ▸ hg)
             · rw [e] at hg; injection hg with hg; right; rw [← hg]; simp))
           have hgr4 : Blk w4 gr 71 #[.pointer (some ⟨r, 0, none⟩)] := Blk.grown (HGR.out.alloc (.cells #[iv i, iv (s.ts i).pc] 39)).drew hG4 fun e => by
             obtain ⟨cur, hb⟩ := HS.out.ty e
             have := hb.ty_eq HGR.out; cases this
           have hgt4 : Blk w4 gt 77 #[.pointer (some ⟨b i, 0, none⟩)] := Blk.grown (HGT.out.alloc (.cells #[iv i, iv (s.ts i).pc] 39)).drew hG4 fun e => by
             obtain ⟨cur, hb⟩ := HS.out.ty e
             have := hb.ty_eq HGT.out; cases this
           have HGR4 := Lib.hid hgr4
           have HGT4 := Lib.hid hgt4
           have hcr4 := hgr4.cell 0
           have hc4 : w4.cell? ⟨r, 23, none⟩ = some (.slice ca s.trace.length cc2) := ((HR4.out.2.2.cell 23).trans (cellsN_get (by omega))).trans (congrArg some HCV.out)
           have hfr4 := HR4.out.2.2.frozen
           have hlr4 := HR4.out.2.2.lt
           have HM4 := Lib.hid (show StepMid base r f b s i gr gt g0 o0 c0 cc2 ca w3 .normal _ (w4.setCell ⟨r, 23, none⟩ (.slice va (s.trace.length + 1 : Nat) vc)) from ⟨va, vc, w4, rfl, rfl, rfl, HR4.out.1, ((H1.out.only0 ((Only.refl [] w3).alloc (.cells #[iv i, iv (s.ts i).pc] 39)).drew).2).trans HR4.out.2.1, hgr4, hgt4⟩)
           clear hS4 hgr4 hgt4))
    all_goals exact HM4.out
end Go.Proofs.Ytompelilflckkaa
