/-
  The scheduler: a lock let go; a wait.
-/
import Derived.Test.YtompelilflckkaaSf
import Derived.WalkLawsBesides
import Derived.Deep.RegionLaw
namespace Go.Proofs.Ytompelilflckkaa
open Go.RowKit Go.Fl

def boomV (n : Int) : Value := .iface 95 (.agg #[iv n])
set_option maxRecDepth 100000 in
theorem free_yes {w : World} {base r : Nat} {f : Nat → Value} {b : Nat → Nat} {s : S} {k i : Nat} (h : RS w base r f b s) (hk : k < 4) (hl : s.locks k = i) :
    Calls Try.prog 47 #[.pointer (some ⟨r, 0, none⟩), iv i, iv k] w fun e w' => e = .returned (.tuple #[]) ∧ w' = w.setCell ⟨r, 2 + k, none⟩ (iv (-1)) := by
  have cl := h.cLock hk
  have hlr := h.lt
  have hfr := h.rc.blk.frozen
  rw [hl] at cl
  have hkz : (k : Int) < 4 := by omega
  clear h
  go_enter Try.func47, Try.ntmps47
  go_wp2
  go_end0
  exact ⟨rfl, rfl⟩
set_option maxRecDepth 100000 in
theorem free_no {w : World} {base r : Nat} {f : Nat → Value} {b : Nat → Nat} {s : S} {k i : Nat} (h : RS w base r f b s) (hk : k < 4) (hl : ¬ s.locks k = i) :
    Calls Try.prog 47 #[.pointer (some ⟨r, 0, none⟩), iv i, iv k] w fun e w' => e = .panicked [{ v := boomV (-1), recovered := false }] ∧ w' = w := by
  have cl := h.cLock hk
  have hlr := h.lt
  have hkz : (k : Int) < 4 := by omega
  have hlz : (s.locks k == (i : Int)) = false := by simpa using hl
  clear h
  go_enter Try.func47, Try.ntmps47
  go_wp2
  exact ⟨rfl, rfl, rfl⟩

theorem sl_one {w : World} {g e : Nat} {x : Value} {c : Nat} (h : Blk w g e #[x]) (hc : c = 1) : Sl w e 1 (.slice (some ⟨g, 0, none⟩) 1 c) 1 [x] :=
  ⟨rfl, .inr ⟨g, 0, c, #[x], rfl, h, by omega, by rw [hc]; decide, by rw [hc]; simp, rfl⟩⟩
theorem Blk.grown {w w1 : World} {g t : Nat} {cs : Array Value} {row : Option Nat} (hb : Blk w g t cs) (hg : w.grownBy w1 row) (hn : row ≠ some g) : Blk w1 g t cs := (hg.block g hb.lt fun e => hn e.symm).trans hb
set_option maxRecDepth 100000 in
set_option maxHeartbeats 3200000 in
theorem wait_one {w : World} {base r : Nat} {f : Nat → Value} {b : Nat → Nat} {s : S} {i x y : Nat} {n : Int} (h : RS w base r f b s) (hi : i < s.n) (hx : x < 4) (hy : y < 4) (hw0 : (s.ts i).wait = 0) (hl : s.locks y = i) (hcl : (s.conds x).length ≤ 65536) :
    Calls Try.prog 48 #[.pointer (some ⟨r, 0, none⟩), iv i, .pointer (some ⟨b i, 0, none⟩), .agg #[iv 3, iv x, iv y, iv n]] w fun e w' => e = .returned (.bool false) ∧
      (∃ f', RS w' base r f' b (((s.setLock y (-1)).setT i { s.ts i with wait := 1 }).setCond x (s.conds x ++ [i]))) ∧ Below base w w' := by
  obtain ⟨j3, si, sz0, sz1, sz2⟩ := info_parts info3
  have hxz : (x : Int) < 4 := by omega
  have hyz : (y : Int) < 4 := by omega
  obtain ⟨h1, b1⟩ := h.only0 ((Only.refl [] w).alloc (.cells #[iv 3, iv x, iv y, iv n] 47))
  have hF := Lib.hid (free_yes h1 hy hl)
  obtain ⟨h2, b2⟩ := h1.lock hy (-1)
  have H2 := Lib.hid h2
  have hbx : Blk (w.alloc (.cells #[iv 3, iv x, iv y, iv n] 47)) w.heap.size 47 #[iv 3, iv x, iv y, iv n] := Blk.new _ _ _
  have hnr : w.heap.size ≠ r := fun e => by have := h.lt; omega
  obtain ⟨v, hB, _⟩ := h1.task i hi
  obtain ⟨hcell, hfr, hlt⟩ := hB.facts
  rw [hw0] at hcell
  clear hB
  go_enter Try.func48, Try.ntmps48
  go_wp2_with fail
  refine hF.out.mono ?_
  clear hF
  rintro e w2 ⟨rfl, hw2⟩
  rw [← hw2] at H2 b2
  have HX := Lib.hid (show Blk w2 w.heap.size 47 #[iv 3, iv x, iv y, iv n] by rw [hw2]; exact hbx.far hnr _)
  clear hw2 hcell hfr hlt hbx h1
  obtain ⟨hcx, _, hltx⟩ := HX.out.facts
  obtain ⟨v, hB, _⟩ := H2.out.task i hi
  obtain ⟨hcell, hfr, hlt⟩ := hB.facts
  obtain ⟨h3, b3⟩ := H2.out.setT2 hi (j := 3) (u := iv 1) (t := { s.ts i with wait := 1 }) rfl rfl (fun _ => rfl)
  have H3 := Lib.hid h3
  have hne : w.heap.size ≠ b i := fun e => by have := (e ▸ HX.out : Blk w2 (b i) 47 _).ty_eq hB; cases this
  have HX3 := Lib.hid (HX.out.far (p := ⟨b i, 3, none⟩) hne (iv 1))
  have hcx3 := HX3.out.cell
  obtain ⟨cc, hS⟩ := h3.sCond hx
  obtain ⟨ca, cc2, hcv, _, _⟩ := hS.shape
  have HCV := Lib.hid hcv
  rw [hcv] at cc hS
  have HS : Hid (Sl (w2.setCell ⟨b i, 3, none⟩ (iv 1)) 3 1 (.slice ca (s.conds x).length cc2) (s.conds x).length (nats (s.conds x))) := Lib.hid hS
  have hlr := h3.lt
  have hfr3 := h3.rc.blk.frozen
  clear hB hS hcv
  go_wp2
  generalize w2.setCell ⟨b i, 3, none⟩ (.int .i64 1) = w3 at *
  have HG : Hid (∀ u, (((w3.alloc (.cells u 3)).drew).cell? ⟨w.heap.size, 1, none⟩ = some (iv x) ∧ ((w3.alloc (.cells u 3)).drew).cell? ⟨r, 6 + x, none⟩ = some (.slice ca (s.conds x).length cc2))) := Lib.hid fun u => by
    have hb := (HX3.out.alloc (.cells u 3)).drew.cell 1
    have hc := ((h3.only0 ((Only.refl [] w3).alloc (.cells u 3))).1.sCond hx).1
    exact ⟨hb, hc.trans (congrArg some HCV.out)⟩
  have hga : ∀ u, (w3.alloc (.cells u 3)).cell? ⟨w.heap.size, 1, none⟩ = some (iv x) := fun u => (HG.out u).1
  have hgb : ∀ u, (w3.alloc (.cells u 3)).cell? ⟨r, 6 + x, none⟩ = some (.slice ca (s.conds x).length cc2) := fun u => (HG.out u).2
  go_region_law (first
      | (refine step_append_sls rfl (.tmp 31) (.tmp 33) 23 rfl 3 j3 _ 1 8 Try.underlying23 si sz0 sz1 sz2 rfl (by decide) rfl (HS.out.alloc _) rfl (sl_one (Blk.new _ _ _) rfl) (by simp [Value.oneCell']) (by unfold maxLen; omega) (by omega) ?_
         intro v4 w4 hS4 hg4 hat4
         have hG4 : (w3.alloc (.cells #[iv i] 3)).drew.grownBy w4 (Value.slice ca (s.conds x).length cc2).ownBlock := hg4
         have hA4 : v4.ownBlock = (Value.slice ca (s.conds x).length cc2).ownBlock ∨ v4.ownBlock = some (w3.heap.size + 1) := hat4.imp (fun e => e) (fun e => by rw [e]; simp)
         clear hg4 hat4
         obtain ⟨va, vc, hv4, _, _⟩ := hS4.shape
         subst hv4
         have h4 := (h3.only0 ((Only.refl [] w3).alloc (.cells #[iv i] 3)).drew).1
         have HR4 := Lib.hid (h4.cond (k := x) hx (l := s.conds x ++ [i]) (by rw [nats_append, List.length_append]; exact hS4) (by rw [HCV.out]; exact hG4) (fun g hg => by
           rw [HCV.out]
           rcases hA4 with e | e
           · exact .inl (e ▸ hg)
           · rw [e] at hg; injection hg with hg; right; rw [← hg]; simp))
         have HK4 : w4.cell? ⟨w.heap.size, 1, none⟩ = some (iv x) ∧ w4.cell? ⟨r, 6 + x, none⟩ = some (.slice ca (s.conds x).length cc2) := by
           refine ⟨?_, ?_⟩
           · refine (Blk.grown (HX3.out.alloc (.cells #[iv i] 3)).drew hG4 fun e => ?_).cell 1
             obtain ⟨cur, hb⟩ := HS.out.ty e
             have := hb.ty_eq HX3.out; cases this
           · exact ((HR4.out.2.2.cell (6 + x)).trans (cellsN_get (by omega))).trans (congrArg some HCV.out)
         have HK5 : ∀ u, (w4.setCell ⟨r, 6 + x, none⟩ u).cell? ⟨w.heap.size, 1, none⟩ = some (iv x) := fun u => (World.cell?_setCell_other (w := w4) (a := ⟨r, 6 + x, none⟩) (b := ⟨w.heap.size, 1, none⟩) (v := u) (fun e => by injection e with e; exact hnr e.symm)).trans HK4.1
         have hfr4 := HR4.out.2.2.frozen
         have hlr4 := HR4.out.2.2.lt
         clear hS4))
  all_goals
    go_wp2
    exact bodyPost_ret (results_tmp rfl _ _ _) rfl ⟨rfl, ⟨_, HR4.out.1⟩, (((b1.trans b2).trans b3).trans (h3.only0 ((Only.refl [] w3).alloc (.cells #[iv i] 3)).drew).2).trans HR4.out.2.1⟩
end Go.Proofs.Ytompelilflckkaa
