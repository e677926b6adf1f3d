/-
  The scheduler: a lock let go; a wait.
-/
import Derived.Test.YtompelilflckkaaMf
import Derived.WalkLawsBesides
import Derived.Deep.RegionLaw
set_option linter.unusedSimpArgs false
set_option linter.unusedVariables false
namespace Go.Proofs.Ytompelilflckkaa
open Go.RowKit Go.Fl

def boomV (n : Int) : Value := .iface 95 (.agg #[iv n])
set_option maxRecDepth 100000 in
theorem free_yes {w : World} {base r : Nat} {f : Nat → Value} {b : Nat → Nat} {s : S} {k i : Nat} (h : RS w base r f b s) (hk : k < 4) (hl : s.locks k = i) :
    Calls Try.prog 47 #[.pointer (some ⟨r, 0, none⟩), iv i, iv k] w fun e w' => e = .returned (.tuple #[]) ∧ w' = w.setCell ⟨r, 2 + k, none⟩ (iv (-1)) := by
  have cl := h.cLock hk
  have hlr := h.lt
  have hfr := h.rc.blk.frozen
  rw [hl] at cl
  have hkz : (k : Int) < 4 := by omega
  clear h
  go_enter Try.func47, Try.ntmps47
  go_wp2
  go_end0
  exact ⟨rfl, rfl⟩
set_option maxRecDepth 100000 in
theorem free_no {w : World} {base r : Nat} {f : Nat → Value} {b : Nat → Nat} {s : S} {k i : Nat} (h : RS w base r f b s) (hk : k < 4) (hl : ¬ s.locks k = i) :
    Calls Try.prog 47 #[.pointer (some ⟨r, 0, none⟩), iv i, iv k] w fun e w' => e = .panicked [{ v := boomV (-1), recovered := false }] ∧ w' = w := by
  have cl := h.cLock hk
  have hlr := h.lt
  have hkz : (k : Int) < 4 := by omega
  have hlz : (s.locks k == (i : Int)) = false := by simpa using hl
  clear h
  go_enter Try.func47, Try.ntmps47
  go_wp2
  exact ⟨rfl, rfl, rfl⟩

theorem sl_one {w : World} {g e : Nat} {x : Value} {c : Nat} (h : Blk w g e #[x]) (hc : c = 1) : Sl w e 1 (.slice (some ⟨g, 0, none⟩) 1 c) 1 [x] :=
  ⟨rfl, .inr ⟨g, 0, c, #[x], rfl, h, by omega, by rw [hc]; decide, by rw [hc]; simp, rfl⟩⟩
theorem Blk.grown {w w1 : World} {g t : Nat} {cs : Array Value} {row : Option Nat} (hb : Blk w g t cs) (hg : w.grownBy w1 row) (hn : row ≠ some g) : Blk w1 g t cs := (hg.block g hb.lt fun e => hn e.symm).trans hb
set_option maxRecDepth 100000 in
set_option maxHeartbeats 3200000 in
theorem wait_one {w : World} {base r : Nat} {f : Nat → Value} {b : Nat → Nat} {s : S} {i x y : Nat} {n : Int} (h : RS w base r f b s) (hi : i < s.n) (hx : x < 4) (hy : y < 4) (hw0 : (s.ts i).wait = 0) (hl : s.locks y = i) (hcl : (s.conds x).length ≤ 65536) :
    Calls Try.prog 48 #[.pointer (some ⟨r, 0, none⟩), iv i, .pointer (some ⟨b i, 0, none⟩), .agg #[iv 3, iv x, iv y, iv n]] w fun e w' => e = .returned (.bool false) ∧
      (∃ f', RS w' base r f' b (((s.setLock y (-1)).setT i { s.ts i with wait := 1 }).setCond x (s.conds x ++ [i]))) ∧ Below base w w' := by
  obtain ⟨j3, si, sz0, sz1, sz2⟩ := info_parts info3
  have hxz : (x : Int) < 4 := by omega
  have hyz : (y : Int) < 4 := by omega
  obtain ⟨h1, b1⟩ := h.only0 ((Only.refl [] w).alloc (.cells #[iv 3, iv x, iv y, iv n] 47))
  have hF := Lib.hid (free_yes h1 hy hl)
  obtain ⟨h2, b2⟩ := h1.lock hy (-1)
  have H2 := Lib.hid h2
  have hbx : Blk (w.alloc (.cells #[iv 3, iv x, iv y, iv n] 47)) w.heap.size 47 #[iv 3, iv x, iv y, iv n] := Blk.new _ _ _
  have hnr : w.heap.size ≠ r := fun e => by have := h.lt; omega
  obtain ⟨v, hB, _⟩ := h1.task i hi
  obtain ⟨hcell, hfr, hlt⟩ := hB.facts
  rw [hw0] at hcell
  clear hB
  go_enter Try.func48, Try.ntmps48
  go_wp2_with fail
  refine hF.out.mono ?_
  clear hF
  rintro e w2 ⟨rfl, hw2⟩
  rw [← hw2] at H2 b2
  have HX := Lib.hid (show Blk w2 w.heap.size 47 #[iv 3, iv x, iv y, iv n] by rw [hw2]; exact hbx.far hnr _)
  clear hw2 hcell hfr hlt hbx h1
  obtain ⟨hcx, _, hltx⟩ := HX.out.facts
  obtain ⟨v, hB, _⟩ := H2.out.task i hi
  obtain ⟨hcell, hfr, hlt⟩ := hB.facts
  obtain ⟨h3, b3⟩ := H2.out.setT2 hi (j := 3) (u := iv 1) (t := { s.ts i with wait := 1 }) rfl rfl (fun _ => rfl)
  have H3 := Lib.hid h3
  have hne : w.heap.size ≠ b i := fun e => by have := (e ▸ HX.out : Blk w2 (b i) 47 _).ty_eq hB; cases this
  have HX3 := Lib.hid (HX.out.far (p := ⟨b i, 3, none⟩) hne (iv 1))
  have hcx3 := HX3.out.cell
  obtain ⟨cc, hS⟩ := h3.sCond hx
  obtain ⟨ca, cc2, hcv, _, _⟩ := hS.shape
  have HCV := Lib.hid hcv
  rw [hcv] at cc hS
  have HS : Hid (Sl (w2.setCell ⟨b i, 3, none⟩ (iv 1)) 3 1 (.slice ca (s.conds x).length cc2) (s.conds x).length (nats (s.conds x))) := Lib.hid hS
  have hlr := h3.lt
  have hfr3 := h3.rc.blk.frozen
  clear hB hS hcv
  go_wp2
  generalize w2.setCell ⟨b i, 3, none⟩ (.int .i64 1) = w3 at *
  have HG : Hid (∀ u, (((w3.alloc (.cells u 3)).drew).cell? ⟨w.heap.size, 1, none⟩ = some (iv x) ∧ ((w3.alloc (.cells u 3)).drew).cell? ⟨r, 6 + x, none⟩ = some (.slice ca (s.conds x).length cc2))) := Lib.hid fun u => by
    have hb := (HX3.out.alloc (.cells u 3)).drew.cell 1
    have hc := ((h3.only0 ((Only.refl [] w3).alloc (.cells u 3))).1.sCond hx).1
    exact ⟨hb, hc.trans (congrArg some HCV.out)⟩
  have hga : ∀ u, (w3.alloc (.cells u 3)).cell? ⟨w.heap.size, 1, none⟩ = some (iv x) := fun u => (HG.out u).1
  have hgb : ∀ u, (w3.alloc (.cells u 3)).cell? ⟨r, 6 + x, none⟩ = some (.slice ca (s.conds x).length cc2) := fun u => (HG.out u).2
  go_region_law (first
      | (refine step_append_sls rfl (.tmp 31) (.tmp 33) 23 rfl 3 j3 _ 1 8 Try.underlying23 si sz0 sz1 sz2 rfl (by decide) rfl (HS.out.alloc _) rfl (sl_one (Blk.new _ _ _) rfl) (by simp [Value.oneCell']) (by unfold maxLen; omega) (by omega) ?_
         intro v4 w4 hS4 hg4 hat4
         have hG4 : (w3.alloc (.cells #[iv i] 3)).drew.grownBy w4 (Value.slice ca (s.conds x).length cc2).ownBlock := hg4
         have hA4 : v4.ownBlock = (Value.slice ca (s.conds x).length cc2).ownBlock ∨ v4.ownBlock = some (w3.heap.size + 1) := hat4.imp (fun e => e) (fun e => by rw [e]; simp)
         clear hg4 hat4
         obtain ⟨va, vc, hv4, _, _⟩ := hS4.shape
         subst hv4
         have h4 := (h3.only0 ((Only.refl [] w3).alloc (.cells #[iv i] 3)).drew).1
         have HR4 := Lib.hid (h4.cond (k := x) hx (l := s.conds x ++ [i]) (by rw [nats_append, List.length_append]; exact hS4) (by rw [HCV.out]; exact hG4) (fun g hg => by
           rw [HCV.out]
           rcases hA4 with e | e
           · exact .inl (e ▸ hg)
           · rw [e] at hg; injection hg with hg; right; rw [← hg]; simp))
         have HK4 : w4.cell? ⟨w.heap.size, 1, none⟩ = some (iv x) ∧ w4.cell? ⟨r, 6 + x, none⟩ = some (.slice ca (s.conds x).length cc2) := by
           refine ⟨?_, ?_⟩
           · refine (Blk.grown (HX3.out.alloc (.cells #[iv i] 3)).drew hG4 fun e => ?_).cell 1
             obtain ⟨cur, hb⟩ := HS.out.ty e
             have := hb.ty_eq HX3.out; cases this
           · exact ((HR4.out.2.2.cell (6 + x)).trans (cellsN_get (by omega))).trans (congrArg some HCV.out)
         have HK5 : ∀ u, (w4.setCell ⟨r, 6 + x, none⟩ u).cell? ⟨w.heap.size, 1, none⟩ = some (iv x) := fun u => (World.cell?_setCell_other (w := w4) (a := ⟨r, 6 + x, none⟩) (b := ⟨w.heap.size, 1, none⟩) (v := u) (fun e => by injection e with e; exact hnr e.symm)).trans HK4.1
         have hfr4 := HR4.out.2.2.frozen
         have hlr4 := HR4.out.2.2.lt
         clear hS4))
  all_goals
    go_wp2
    exact bodyPost_ret (results_tmp rfl _ _ _) rfl ⟨rfl, ⟨_, HR4.out.1⟩, (((b1.trans b2).trans b3).trans (h3.only0 ((Only.refl [] w3).alloc (.cells #[iv i] 3)).drew).2).trans HR4.out.2.1⟩
end Go.Proofs.Ytompelilflckkaa
/-
  The scheduler: a wait's other ends.
-/
namespace Go.Proofs.Ytompelilflckkaa
open Go.RowKit Go.Fl

set_option maxRecDepth 100000 in
set_option maxHeartbeats 3200000 in
theorem wait_no {w : World} {base r : Nat} {f : Nat → Value} {b : Nat → Nat} {s : S} {i x y : Nat} {n : Int} (h : RS w base r f b s) (hi : i < s.n) (hy : y < 4) (hw0 : (s.ts i).wait = 0) (hl : ¬ s.locks y = i) :
    Calls Try.prog 48 #[.pointer (some ⟨r, 0, none⟩), iv i, .pointer (some ⟨b i, 0, none⟩), .agg #[iv 3, iv x, iv y, iv n]] w fun e w' => e = .panicked [{ v := boomV (-1), recovered := false }] ∧
      (∃ f', RS w' base r f' b s) ∧ Only [] w w' := by
  obtain ⟨h1, b1⟩ := h.only0 ((Only.refl [] w).alloc (.cells #[iv 3, iv x, iv y, iv n] 47))
  have hF := Lib.hid (free_no h1 hy hl)
  have hbx : Blk (w.alloc (.cells #[iv 3, iv x, iv y, iv n] 47)) w.heap.size 47 #[iv 3, iv x, iv y, iv n] := Blk.new _ _ _
  obtain ⟨v, hB, _⟩ := h1.task i hi
  obtain ⟨hcell, hfr, hlt⟩ := hB.facts
  rw [hw0] at hcell
  have H1 := Lib.hid h1
  clear hB h1 h
  go_enter Try.func48, Try.ntmps48
  go_wp2_with fail
  refine hF.out.mono ?_
  clear hF
  rintro e w2 ⟨rfl, hw2⟩
  subst hw2
  go_wp2
  exact ⟨rfl, rfl, ⟨_, H1.out⟩, (Only.refl [] w).alloc _⟩
set_option maxRecDepth 100000 in
set_option maxHeartbeats 3200000 in
theorem wait_two {w : World} {base r : Nat} {f : Nat → Value} {b : Nat → Nat} {s : S} {i x y : Nat} {n : Int} (h : RS w base r f b s) (hi : i < s.n) (hy : y < 4) (hw0 : (s.ts i).wait = 2) :
    Calls Try.prog 48 #[.pointer (some ⟨r, 0, none⟩), iv i, .pointer (some ⟨b i, 0, none⟩), .agg #[iv 3, iv x, iv y, iv n]] w fun e w' => e = .returned (.bool true) ∧
      (∃ f', RS w' base r f' b ((s.setT i { s.ts i with wait := 0 }).setLock y i)) ∧ Below base w w' := by
  obtain ⟨h1, b1⟩ := h.only0 ((Only.refl [] w).alloc (.cells #[iv 3, iv x, iv y, iv n] 47))
  have hbx : Blk (w.alloc (.cells #[iv 3, iv x, iv y, iv n] 47)) w.heap.size 47 #[iv 3, iv x, iv y, iv n] := Blk.new _ _ _
  have hnr : w.heap.size ≠ r := fun e => by have := h.lt; omega
  have hyz : (y : Int) < 4 := by omega
  obtain ⟨v, hB, _⟩ := h1.task i hi
  obtain ⟨hcell, hfr, hlt⟩ := hB.facts
  rw [hw0] at hcell
  have hne : w.heap.size ≠ b i := fun e => by have := (e ▸ hbx : Blk (w.alloc (.cells #[iv 3, iv x, iv y, iv n] 47)) (b i) 47 _).ty_eq hB; cases this
  obtain ⟨h3, b3⟩ := h1.setT2 hi (j := 3) (u := iv 0) (t := { s.ts i with wait := 0 }) rfl rfl (fun _ => rfl)
  have HX3 := Lib.hid (hbx.far (p := ⟨b i, 3, none⟩) hne (iv 0))
  have hcx3 := HX3.out.cell
  have cl := h3.cLock hy
  have hlr := h3.lt
  have hfr3 := h3.rc.blk.frozen
  have H3 := Lib.hid h3
  clear hB h1 h h3
  go_enter Try.func48, Try.ntmps48
  go_wp2
  generalize (w.alloc (.cells #[.int .i64 3, .int .i64 x, .int .i64 y, .int .i64 n] 47)).setCell ⟨b i, 3, none⟩ (.int .i64 0) = w3 at *
  refine Lex.wp_region_text (by kernel_rfl) (by kernel_rfl) ?_
  go_wp2
  refine Lex.sq_done (by rfl) ?_
  go_wp2
  obtain ⟨h4, b4⟩ := H3.out.lock hy i
  obtain ⟨h5, b5⟩ := h4.only0 (Only.refl [] _).drew
  exact bodyPost_ret (results_tmp rfl _ _ _) rfl ⟨rfl, ⟨_, h5⟩, ((b1.trans b3).trans b4).trans b5⟩
end Go.Proofs.Ytompelilflckkaa
/-
  The scheduler: those that wait for a condition wake.
-/
namespace Go.Proofs.Ytompelilflckkaa
open Go.RowKit Go.Fl

theorem wakeAll_append (s : S) (l m : List Nat) : s.wakeAll (l ++ m) = (s.wakeAll l).wakeAll m := by
  induction l generalizing s with
  | nil => rfl
  | cons i l ih => exact ih _

set_option maxRecDepth 100000 in
set_option maxHeartbeats 3200000 in
theorem wake_ok {w : World} {base r : Nat} {f : Nat → Value} {b : Nat → Nat} {s : S} {c k L : Nat} (h : RS w base r f b s) (hw : WF s L) (hL : L ≤ 65536) (hc : c < 4) (hk : k ≤ (s.conds c).length) :
    Calls Try.prog 49 #[.pointer (some ⟨r, 0, none⟩), iv c, iv k] w fun e w' => e = .returned (.tuple #[]) ∧ (∃ f', RS w' base r f' b (s.wake c k)) ∧ Below base w w' := by
  obtain ⟨cc, hS⟩ := h.sCond hc
  obtain ⟨ca, cc2, hcv, hcc2, _⟩ := hS.shape
  have HCV := Lib.hid hcv
  rw [hcv] at cc
  have hcz : (c : Int) < 4 := by omega
  have hlr := h.lt
  have hkc : k ≤ cc2 := by omega
  have hkcz : (k : Int) ≤ (cc2 : Int) := by omega
  have hn := hw.n
  have hll := (hw.conds c).2
  have H := Lib.hid h
  clear hS hcv h
  go_enter Try.func49, Try.ntmps49
  go_wp2
  go_loopw [17] (fun z wr => ∃ j : Nat, j ≤ k ∧ z = .int .i64 j ∧ Hid (RS wr base r f b (s.wakeAll ((s.conds c).take j))) ∧ Hid (Below base w wr)) (fun z _ => k - (intOf z).toNat)
  case atStart => exact ⟨0, Nat.zero_le _, rfl, Lib.hid (by rw [List.take_zero]; exact H.out), Lib.hid (Below.refl _ _)⟩
  case round =>
    obtain ⟨j, hj, rfl, HR, HB⟩ := hrel
    have hcn : (s.wakeAll ((s.conds c).take j)).conds c = s.conds c := by rw [wakeAll_conds]
    obtain ⟨cr, hSr⟩ := HR.out.sCond hc
    rw [hcn] at hSr
    by_cases hjk : j < k
    · have hjz : (j : Int) < (k : Int) := by omega
      have hjl : j < (s.conds c).length := by omega
      obtain ⟨g, o, cp, hv, hg, _, _, hcc, _⟩ := hSr.form (by omega)
      rw [HCV.out] at hv
      injection hv with e1 _ e3
      subst e1
      subst e3
      obtain ⟨id, hid⟩ : ∃ id, (s.conds c)[j] = id := ⟨_, rfl⟩
      have cx := (hcc j (by omega)).trans (nats_at hjl)
      rw [hid] at cx
      have hidn : id < s.n := (hw.conds c).1 id (hid ▸ List.getElem_mem hjl)
      have hsn : (s.wakeAll ((s.conds c).take j)).n = s.n := wakeAll_n _ _
      have hidn' : id < (s.wakeAll ((s.conds c).take j)).n := by rw [hsn]; exact hidn
      obtain ⟨gt, ot, ct, htv, hgt, hct⟩ := HR.out.cTask hidn'
      have c0 := HR.out.sTasks.1
      rw [htv] at c0
      rw [hsn] at c0
      have hidz : (id : Int) < (s.n : Int) := by omega
      have hlr1 := HR.out.lt
      obtain ⟨v, hBk, _⟩ := HR.out.task id hidn'
      obtain ⟨hcell, hfr, hlt⟩ := hBk.facts
      have HE := Lib.hid (show s.wakeAll ((s.conds c).take (j + 1)) = (s.wakeAll ((s.conds c).take j)).setT id { (s.wakeAll ((s.conds c).take j)).ts id with wait := 2 } by
        rw [List.take_succ_eq_append_getElem hjl, hid, wakeAll_append]; rfl)
      obtain ⟨h3, b3⟩ := HR.out.setT2 hidn' (j := 3) (u := iv 2) (t := { (s.wakeAll ((s.conds c).take j)).ts id with wait := 2 }) rfl rfl (fun _ => rfl)
      have H3 := Lib.hid h3
      have HB3 := Lib.hid (HB.out.trans b3)
      clear hcc hSr hcn htv hBk h3 b3 hid
      go_wp2
      go_roundw
      case measure => simp [intOf]; omega
      case rel => exact ⟨j + 1, by omega, by go_num, Lib.hid (by rw [HE.out]; exact H3.out), HB3⟩
    · obtain rfl : j = k := by omega
      rw [HCV.out] at cr hSr
      have hlr1 := HR.out.lt
      have hfr := HR.out.rc.blk.frozen
      have HSr := Lib.hid hSr
      clear hSr hcn
      go_wp2
      have hnd : (nats (s.conds c)).drop (j * 1) = nats ((s.conds c).drop j) := by simp [nats]
      by_cases hcj : cc2 = j
      · have HC := HSr.out.cut (k := j) hk
        rw [if_pos hcj, hnd] at HC
        obtain ⟨h5, b5, _⟩ := HR.out.cond hc (l := (s.conds c).drop j) (by rw [List.length_drop]; exact HC) (grown_refl _ _) (fun g hg => .inl (by
          rw [HCV.out]
          cases ca with
          | none => simp [Value.ownBlock] at hg
          | some ad => simpa [Value.ownBlock] using hg))
        obtain ⟨h6, b6⟩ := h5.only0 (Only.refl [] _).drew
        have H6 := Lib.hid h6
        have B6 := Lib.hid ((HB.out.trans b5).trans b6)
        have hz : cc2 - j = 0 := by omega
        have hz2 : (s.conds c).length - j = 0 := by omega
        rw [hz, hz2] at H6 B6
        clear h5 b5 h6 b6 HC hnd hz hz2
        subst hcj
        refine Lex.wp_region_text (by kernel_rfl) (by kernel_rfl) ?_
        go_wp2
        refine Lex.sq_done (by rfl) ?_
        go_wp2
        go_end0
        exact ⟨rfl, ⟨_, H6.out⟩, B6.out⟩
      · have HC := HSr.out.cut (k := j) hk
        rw [if_neg hcj, hnd, Nat.mul_one] at HC
        obtain ⟨h5, b5, _⟩ := HR.out.cond hc (l := (s.conds c).drop j) (by rw [List.length_drop]; exact HC) (grown_refl _ _) (fun g hg => .inl (by
          rw [HCV.out]
          cases ca with
          | none => exact hg
          | some ad => by_cases hj0 : j = 0 <;> simpa [Value.ownBlock, Addr.add, hj0] using hg))
        obtain ⟨h6, b6⟩ := h5.only0 (Only.refl [] _).drew
        have H6 := Lib.hid h6
        have B6 := Lib.hid ((HB.out.trans b5).trans b6)
        clear h5 b5 h6 b6 HC hnd
        refine Lex.wp_region_text (by kernel_rfl) (by kernel_rfl) ?_
        go_wp2
        refine Lex.sq_done (by rfl) ?_
        go_wp2
        go_end0
        exact ⟨rfl, ⟨_, H6.out⟩, B6.out⟩
end Go.Proofs.Ytompelilflckkaa
/-
  The scheduler: a task's act, kind by kind.
-/
namespace Go.Proofs.Ytompelilflckkaa
open Go.RowKit Go.Fl

theorem pc_step (v : Value) (t : T) : SetEq (#[v, iv t.pc, iv t.guard, iv t.wait, .bool t.died, iv t.num].setIfInBounds 1 (iv ((t.pc : Int) + 1))) #[v, iv ((t.pc + 1 : Nat) : Int), iv t.guard, iv t.wait, .bool t.died, iv t.num] := by
  unfold SetEq
  rw [Int.natCast_add]
  rfl
section
variable {w : World} {base r : Nat} {f : Nat → Value} {b : Nat → Nat} {s : S} {i L x y : Nat} {n : Int}
set_option maxRecDepth 100000 in
set_option maxHeartbeats 3200000 in
theorem do1 (h : RS w base r f b s) (hw : WF s L) (hi : i < s.n) (hp : (s.ts i).pc < (s.ts i).acts.length) (ha : (s.ts i).act = ⟨1, x, y, n⟩) (hx : x < 4) :
    Calls Try.prog 46 #[.pointer (some ⟨r, 0, none⟩), iv i, .pointer (some ⟨b i, 0, none⟩)] w fun e w' => e = .returned (.tuple #[]) ∧ (∃ f', RS w' base r f' b ((s.setLock x i).go i)) ∧ Below base w w' := by
  have HA := Lib.hid (act_ok h hi hp)
  have hpl := hw.lens i hi
  rw [ha] at HA
  unfold actV at HA
  dsimp only at HA
  go_enter Try.func46, Try.ntmps46
  go_wp2_with fail
  refine HA.out.mono ?_
  clear HA
  rintro e w2 ⟨rfl, hO2⟩
  obtain ⟨h2, b2⟩ := h.only0 hO2
  obtain ⟨h3, b3⟩ := h2.only0 ((Only.refl [] w2).alloc (.cells #[iv 1, iv x, iv y, iv n] 47))
  have hbx : Blk (w2.alloc (.cells #[iv 1, iv x, iv y, iv n] 47)) w2.heap.size 47 #[iv 1, iv x, iv y, iv n] := Blk.new _ _ _
  have HX := Lib.hid hbx
  have B3 := Lib.hid (b2.trans b3)
  have HO3 := Lib.hid (hO2.alloc (.cells #[iv 1, iv x, iv y, iv n] 47))
  obtain ⟨hcx, _, hltx⟩ := hbx.facts
  have H3 := Lib.hid h3
  have hnr : w2.heap.size ≠ r := fun e => by have := h2.lt; omega
  have hlr := h3.lt
  clear hO2 h2 b2 b3 hbx h
  have hxz : (x : Int) < 4 := by omega
  have cl := h3.cLock hx
  have hfr := h3.rc.blk.frozen
  obtain ⟨h4, b4⟩ := h3.lock hx i
  obtain ⟨h5, b5⟩ := h4.only0 (Only.refl [] _).drew
  have H5 := Lib.hid h5
  have B5 := Lib.hid ((B3.out.trans b4).trans b5)
  clear h3 h4 b4 h5 b5
  go_wp2
  generalize w2.alloc (.cells #[.int .i64 1, .int .i64 x, .int .i64 y, .int .i64 n] 47) = w3 at *
  refine Lex.wp_region_text (by kernel_rfl) (by kernel_rfl) ?_
  go_wp2
  refine Lex.sq_done (by rfl) ?_
  generalize (w3.setCell ⟨r, 2 + x, none⟩ (.int .i64 i)).drew = w5 at *
  obtain ⟨v5, hB5, _⟩ := H5.out.task i hi
  obtain ⟨hc5, hf5, hl5⟩ := hB5.facts
  have hq5 := (show ((s.setLock x i).ts i).pc < (s.ts i).acts.length from hp)
  obtain ⟨h6, b6⟩ := H5.out.setT2 hi (j := 1) (u := iv (((s.setLock x i).ts i).pc + 1)) (t := { (s.setLock x i).ts i with pc := ((s.setLock x i).ts i).pc + 1 }) rfl rfl (fun v => pc_step v _)
  have H6 := Lib.hid h6
  have B6 := Lib.hid (B5.out.trans b6)
  clear hB5 h6 b6
  go_wp2
  go_end0
  exact ⟨rfl, ⟨_, H6.out⟩, B6.out⟩
set_option maxRecDepth 100000 in
set_option maxHeartbeats 3200000 in
theorem do11 (h : RS w base r f b s) (hw : WF s L) (hi : i < s.n) (hp : (s.ts i).pc < (s.ts i).acts.length) (ha : (s.ts i).act = ⟨11, x, y, n⟩) :
    Calls Try.prog 46 #[.pointer (some ⟨r, 0, none⟩), iv i, .pointer (some ⟨b i, 0, none⟩)] w fun e w' => e = .returned (.tuple #[]) ∧ (∃ f', RS w' base r f' b (s.go i)) ∧ Below base w w' := by
  have HA := Lib.hid (act_ok h hi hp)
  have hpl := hw.lens i hi
  rw [ha] at HA
  unfold actV at HA
  dsimp only at HA
  go_enter Try.func46, Try.ntmps46
  go_wp2_with fail
  refine HA.out.mono ?_
  clear HA
  rintro e w2 ⟨rfl, hO2⟩
  obtain ⟨h2, b2⟩ := h.only0 hO2
  obtain ⟨h3, b3⟩ := h2.only0 ((Only.refl [] w2).alloc (.cells #[iv 11, iv x, iv y, iv n] 47))
  have hbx : Blk (w2.alloc (.cells #[iv 11, iv x, iv y, iv n] 47)) w2.heap.size 47 #[iv 11, iv x, iv y, iv n] := Blk.new _ _ _
  have HX := Lib.hid hbx
  have B3 := Lib.hid (b2.trans b3)
  have HO3 := Lib.hid (hO2.alloc (.cells #[iv 11, iv x, iv y, iv n] 47))
  obtain ⟨hcx, _, hltx⟩ := hbx.facts
  have H3 := Lib.hid h3
  have hnr : w2.heap.size ≠ r := fun e => by have := h2.lt; omega
  have hlr := h3.lt
  clear hO2 h2 b2 b3 hbx h
  have H5 := H3
  have B5 := B3
  obtain ⟨v5, hB5, _⟩ := H5.out.task i hi
  obtain ⟨hc5, hf5, hl5⟩ := hB5.facts
  have hq5 := hp
  obtain ⟨h6, b6⟩ := H5.out.setT2 hi (j := 1) (u := iv ((s.ts i).pc + 1)) (t := { s.ts i with pc := (s.ts i).pc + 1 }) rfl rfl (fun v => pc_step v _)
  have H6 := Lib.hid h6
  have B6 := Lib.hid (B5.out.trans b6)
  clear hB5 h6 b6
  go_wp2
  go_end0
  exact ⟨rfl, ⟨_, H6.out⟩, B6.out⟩
set_option maxRecDepth 100000 in
set_option maxHeartbeats 3200000 in
theorem do12 (h : RS w base r f b s) (hw : WF s L) (hi : i < s.n) (hp : (s.ts i).pc < (s.ts i).acts.length) (ha : (s.ts i).act = ⟨12, x, y, n⟩) :
    Calls Try.prog 46 #[.pointer (some ⟨r, 0, none⟩), iv i, .pointer (some ⟨b i, 0, none⟩)] w fun e w' => e = .panicked [{ v := boomV n, recovered := false }] ∧ (∃ f', RS w' base r f' b s) ∧ Only [] w w' := by
  have HA := Lib.hid (act_ok h hi hp)
  have hpl := hw.lens i hi
  rw [ha] at HA
  unfold actV at HA
  dsimp only at HA
  go_enter Try.func46, Try.ntmps46
  go_wp2_with fail
  refine HA.out.mono ?_
  clear HA
  rintro e w2 ⟨rfl, hO2⟩
  obtain ⟨h2, b2⟩ := h.only0 hO2
  obtain ⟨h3, b3⟩ := h2.only0 ((Only.refl [] w2).alloc (.cells #[iv 12, iv x, iv y, iv n] 47))
  have hbx : Blk (w2.alloc (.cells #[iv 12, iv x, iv y, iv n] 47)) w2.heap.size 47 #[iv 12, iv x, iv y, iv n] := Blk.new _ _ _
  have HX := Lib.hid hbx
  have B3 := Lib.hid (b2.trans b3)
  have HO3 := Lib.hid (hO2.alloc (.cells #[iv 12, iv x, iv y, iv n] 47))
  obtain ⟨hcx, _, hltx⟩ := hbx.facts
  have H3 := Lib.hid h3
  have hnr : w2.heap.size ≠ r := fun e => by have := h2.lt; omega
  have hlr := h3.lt
  clear hO2 h2 b2 b3 hbx h
  go_wp2
  exact ⟨rfl, rfl, ⟨_, H3.out⟩, HO3.out⟩
end
end Go.Proofs.Ytompelilflckkaa
