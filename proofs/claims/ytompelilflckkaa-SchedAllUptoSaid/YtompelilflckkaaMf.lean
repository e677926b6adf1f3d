/-
  The scheduler: a task's act, whether it has ended.
-/
import Derived.Test.YtompelilflckkaaMd
import Derived.Test.YtompelilflckkaaMa
import Derived.Test.YtompelilflckkaaProg
import Derived.StillTailTactics
import Derived.BigQuiet
import Derived.Deep.RegionHeld3
import Derived.Test.YtompelilflckkaaMb
import Derived.LoopN
import Derived.Test.YtompelilflckkaaMc
set_option linter.unusedSimpArgs false
set_option linter.unusedVariables false
namespace Go.Proofs.Ytompelilflckkaa
open Go.RowKit Go.Fl

def over (t : T) : Bool := t.died || decide (t.acts.length ≤ t.pc)

set_option maxRecDepth 100000 in
theorem ended_ok {w : World} {base r : Nat} {f : Nat → Value} {b : Nat → Nat} {s : S} {i : Nat} (h : RS w base r f b s) (hi : i < s.n) (hl : (s.ts i).pc ≤ 65536) :
    Calls Try.prog 42 #[.pointer (some ⟨b i, 0, none⟩)] w fun e w' => e = .returned (.bool (over (s.ts i))) ∧ Only [] w w' := by
  obtain ⟨v, hB, hA⟩ := h.task i hi
  obtain ⟨a, cap, hv, hl1, hl2, _⟩ := hA
  obtain ⟨hcell, hfr, hlt⟩ := hB.facts
  subst hv
  generalize s.ts i = t at *
  unfold over
  cases hd : t.died with
  | true =>
    rw [hd] at hcell
    go_enter Try.func42, Try.ntmps42
    go_wp2
    go_quiet (fail)
    go_wp2
    go_ret
    exact ⟨rfl, (Only.refl _ _).drewN _⟩
  | false =>
    rw [hd] at hcell
    by_cases hp : t.acts.length ≤ t.pc
    · have hpz : decide ((t.acts.length : Int) ≤ (t.pc : Int)) = true := decide_eq_true (by omega)
      go_enter Try.func42, Try.ntmps42
      go_wp2
      go_quiet (fail)
      go_wp2
      go_ret
      exact ⟨by simp [hp], (Only.refl _ _).drewN _⟩
    · have hpz : decide ((t.acts.length : Int) ≤ (t.pc : Int)) = false := decide_eq_false (by omega)
      go_enter Try.func42, Try.ntmps42
      go_wp2
      go_quiet (fail)
      go_wp2
      go_ret
      exact ⟨by simp [hp], (Only.refl _ _).drewN _⟩

set_option maxRecDepth 100000 in
theorem act_ok {w : World} {base r : Nat} {f : Nat → Value} {b : Nat → Nat} {s : S} {i : Nat} (h : RS w base r f b s) (hi : i < s.n) (hp : (s.ts i).pc < (s.ts i).acts.length) :
    Calls Try.prog 43 #[.pointer (some ⟨b i, 0, none⟩)] w fun e w' => e = .returned (actV (s.ts i).act) ∧ Only [] w w' := by
  obtain ⟨v, hB, hA⟩ := h.task i hi
  obtain ⟨a, cap, hv, hl1, hl2, hcc⟩ := hA
  obtain ⟨hcell, hfr, hlt⟩ := hB.facts
  subst hv
  obtain ⟨g, off, ha, _, hgs, hcd⟩ := hcc (by omega)
  clear hcc
  subst ha
  have hact : (s.ts i).act = (s.ts i).acts[(s.ts i).pc] := by unfold T.act; rw [List.getD_eq_getElem?_getD, List.getElem?_eq_getElem hp]; rfl
  rw [hact]
  obtain ⟨c0, c1, c2, c3⟩ := hcd _ hp
  generalize (s.ts i).acts[(s.ts i).pc] = x at *
  generalize s.ts i = t at *
  have hpz : (t.pc : Int) < (t.acts.length : Int) := by omega
  clear hcd hact
  go_enter Try.func43, Try.ntmps43
  go_wp2
  refine Lex.wp_region_text (by kernel_rfl) (by kernel_rfl) ?_
  go_wp2
  refine Lex.sq_done (by rfl) ?_
  go_wp2
  refine bodyPost_ret (v := actV x) ?_ rfl ⟨rfl, ?_⟩
  · refine results1 rfl (res_blk Try.underlying47 (by kernel_rfl) rfl (cs := [iv x.kind, iv x.a, iv x.b, iv x.n]) ?_)
    exact (Blk.new w 47 _).drew
  · exact ((Only.refl [] w).alloc _).drew
end Go.Proofs.Ytompelilflckkaa
/-
  The scheduler: how a task stands.
-/
namespace Go.Proofs.Ytompelilflckkaa
open Go.RowKit Go.Fl

section
variable {w : World} {base r : Nat} {f : Nat → Value} {b : Nat → Nat} {s : S}
theorem RS.cLock (h : RS w base r f b s) {k : Nat} (hk : k < 4) : w.cell? ⟨r, 2 + k, none⟩ = some (iv (s.locks k)) := h.rc.cellv (by omega) (spec_lock hk)
theorem RS.cReg (h : RS w base r f b s) {k : Nat} (hk : k < 8) : w.cell? ⟨r, 14 + k, none⟩ = some (iv (s.regs k)) := h.rc.cellv (by omega) (spec_reg hk)
theorem RS.cRoom (h : RS w base r f b s) : w.cell? ⟨r, 1, none⟩ = some (iv s.room) := h.rc.cellv (by omega) rfl
theorem RS.cLast (h : RS w base r f b s) : w.cell? ⟨r, 22, none⟩ = some (iv s.last) := h.rc.cellv (by omega) rfl
theorem RS.sQueue (h : RS w base r f b s) {k : Nat} (hk : k < 4) : w.cell? ⟨r, 10 + k, none⟩ = some (f (10 + k)) ∧ Sl w 2 1 (f (10 + k)) (s.queues k).length (ints (s.queues k)) := ⟨h.rc.cell (by omega), h.rc.row (by omega) (spec_queue hk)⟩
theorem RS.sCond (h : RS w base r f b s) {k : Nat} (hk : k < 4) : w.cell? ⟨r, 6 + k, none⟩ = some (f (6 + k)) ∧ Sl w 3 1 (f (6 + k)) (s.conds k).length (nats (s.conds k)) := ⟨h.rc.cell (by omega), h.rc.row (by omega) (spec_cond hk)⟩
theorem RS.sTrace (h : RS w base r f b s) : w.cell? ⟨r, 23, none⟩ = some (f 23) ∧ Sl w 39 2 (f 23) s.trace.length (turns s.trace) := ⟨h.rc.cell (by omega), h.rc.row (by omega) rfl⟩
theorem RS.sTasks (h : RS w base r f b s) : w.cell? ⟨r, 0, none⟩ = some (f 0) ∧ Sl w 77 1 (f 0) s.n (ptrs b s.n) := ⟨h.rc.cell (by omega), h.rc.row (by omega) rfl⟩
theorem RS.lt (h : RS w base r f b s) : r < w.heap.size := h.rc.blk.lt
end


set_option maxRecDepth 100000 in
set_option maxHeartbeats 3200000 in
theorem how_ok {w : World} {base r : Nat} {f : Nat → Value} {b : Nat → Nat} {s : S} {i L : Nat} (h : RS w base r f b s) (hw : WF s L) (hL : L ≤ 65536) (hi : i < s.n) :
    Calls Try.prog 31 #[.pointer (some ⟨r, 0, none⟩), .pointer (some ⟨b i, 0, none⟩)] w fun e w' => e = .returned (iv (how s (s.ts i))) ∧ Only [] w w' := by
  have hpc := hw.pc i hi
  have hln := hw.lens i hi
  obtain ⟨v, hB, _⟩ := h.task i hi
  obtain ⟨hcell, hfr, hlt⟩ := hB.facts
  have H := Lib.hid h
  have HE := Lib.hid (ended_ok h hi (by omega))
  cases hd : (s.ts i).died with
  | true =>
    have HH := Lib.hid (show how s (s.ts i) = 2 by unfold how; rw [if_pos hd])
    rw [hd] at hcell
    clear hB h
    go_enter Try.func31, Try.ntmps31
    go_wp2
    refine bodyPost_ret (results_tmp rfl _ _ _) rfl ⟨?_, Only.refl _ _⟩
    rw [HH.out]; rfl
  | false =>
    rw [hd] at hcell
    have hov : over (s.ts i) = decide ((s.ts i).acts.length ≤ (s.ts i).pc) := by unfold over; rw [hd]; simp
    rw [hov] at HE
    clear hov hB h
    by_cases hp : (s.ts i).acts.length ≤ (s.ts i).pc
    · have HH := Lib.hid (show how s (s.ts i) = 1 by unfold how; rw [if_neg (by simp [hd]), if_pos hp])
      rw [decide_eq_true hp] at HE
      go_enter Try.func31, Try.ntmps31
      go_wp2_with fail
      refine HE.out.mono ?_
      clear HE
      rintro e w1 ⟨rfl, hO1⟩
      have HO1 := Lib.hid hO1
      clear hO1
      go_wp2
      refine bodyPost_ret (results_tmp rfl _ _ _) rfl ⟨?_, HO1.out⟩
      rw [HH.out]; rfl
    · rw [decide_eq_false hp] at HE
      have hp : (s.ts i).pc < (s.ts i).acts.length := by omega
      have HH := Lib.hid (show how s (s.ts i) = if ((s.ts i).act.kind = 1 ∧ 0 ≤ s.locks (s.ts i).act.a.toNat) ∨ ((s.ts i).act.kind = 3 ∧ (s.ts i).wait = 2 ∧ 0 ≤ s.locks (s.ts i).act.b.toNat) then 4
        else if (s.ts i).act.kind = 3 ∧ (s.ts i).wait = 1 then 5
        else if (s.ts i).act.kind = 6 ∧ s.room ≤ (s.queues (s.ts i).act.a.toNat).length then 6
        else if (s.ts i).act.kind = 7 ∧ s.queues (s.ts i).act.a.toNat = [] then 7
        else 3 by unfold how; rw [if_neg (by simp [hd]), if_neg (by omega)])
      have hact : okA (s.ts i).acts.length (s.ts i).act := hw.acts i hi _ (by unfold T.act; rw [List.getD_eq_getElem?_getD, List.getElem?_eq_getElem hp]; exact List.getElem_mem hp)
      generalize hx : (s.ts i).act = x at *
      obtain ⟨xk, xa, xb, xn⟩ := x
      unfold okA at hact
      dsimp only at HH hact
      have hE : ∀ z : Int, ¬ xk = z → (xk == z) = false := fun z hz => by simpa using hz
      by_cases h1 : xk = 1
      · subst h1
        clear hE
        obtain ⟨ya, rfl⟩ : ∃ n : Nat, xa = n := ⟨xa.toNat, by omega⟩
        have hya : ya < 4 := by omega
        by_cases hl : 0 ≤ s.locks ya
        · have hlz : decide (0 ≤ s.locks ya) = true := decide_eq_true hl
          have HR := Lib.hid (show how s (s.ts i) = 4 by rw [HH.out]; simp [hl])
          clear HH
          go_enter Try.func31, Try.ntmps31
          go_wp2_with fail
          refine HE.out.mono ?_
          clear HE
          rintro e w1 ⟨rfl, hO1⟩
          have HO1 := Lib.hid hO1
          have H1 := Lib.hid (H.out.only0 hO1).1
          clear hO1
          obtain ⟨v, hB, _⟩ := H1.out.task i hi
          obtain ⟨hcell, hfr, hlt⟩ := hB.facts
          clear hB
          have HA := Lib.hid (act_ok H1.out hi hp)
          rw [hx] at HA
          unfold actV at HA
          go_wp2_with fail
          refine HA.out.mono ?_
          clear HA hcell hfr hlt
          rintro e w2 ⟨rfl, hO2⟩
          have HO2 := Lib.hid (HO1.out.trans hO2)
          have H2 := Lib.hid (H1.out.only0 hO2).1
          clear hO2
          obtain ⟨v2, hB, _⟩ := H2.out.task i hi
          obtain ⟨hcell, hfr, hlt⟩ := hB.facts
          have hlr := H2.out.lt
          clear hB
          have cl := H2.out.cLock hya
          go_wp2
          go_quiet (fail)
          go_wp2
          refine bodyPost_ret (results_tmp rfl _ _ _) rfl ⟨?_, ?_⟩
          · rw [HR.out]; rfl
          · (repeat (first | with_reducible exact Only.refl _ _ | with_reducible exact HO2.out | with_reducible refine Only.drew ?_ | with_reducible refine Only.drewN ?_ _ | with_reducible refine Only.alloc ?_ _ | ((with_reducible refine Only.setCell ?_ ?_ _); rotate_left; (focus (first | (left; simp; done) | (right; simp; done) | (right; simp; omega) | (right; omega))))))
        · have hlz : decide (0 ≤ s.locks ya) = false := decide_eq_false hl
          have HR := Lib.hid (show how s (s.ts i) = 3 by rw [HH.out]; simp [hl])
          clear HH
          go_enter Try.func31, Try.ntmps31
          go_wp2_with fail
          refine HE.out.mono ?_
          clear HE
          rintro e w1 ⟨rfl, hO1⟩
          have HO1 := Lib.hid hO1
          have H1 := Lib.hid (H.out.only0 hO1).1
          clear hO1
          obtain ⟨v, hB, _⟩ := H1.out.task i hi
          obtain ⟨hcell, hfr, hlt⟩ := hB.facts
          clear hB
          have HA := Lib.hid (act_ok H1.out hi hp)
          rw [hx] at HA
          unfold actV at HA
          go_wp2_with fail
          refine HA.out.mono ?_
          clear HA hcell hfr hlt
          rintro e w2 ⟨rfl, hO2⟩
          have HO2 := Lib.hid (HO1.out.trans hO2)
          have H2 := Lib.hid (H1.out.only0 hO2).1
          clear hO2
          obtain ⟨v2, hB, _⟩ := H2.out.task i hi
          obtain ⟨hcell, hfr, hlt⟩ := hB.facts
          have hlr := H2.out.lt
          clear hB
          have cl := H2.out.cLock hya
          go_wp2
          go_quiet (fail)
          go_wp2
          go_quiet (fail)
          go_wp2
          go_quiet (fail)
          go_wp2
          go_quiet (fail)
          go_wp2
          refine bodyPost_ret (results_tmp rfl _ _ _) rfl ⟨?_, ?_⟩
          · rw [HR.out]; rfl
          · (repeat (first | with_reducible exact Only.refl _ _ | with_reducible exact HO2.out | with_reducible refine Only.drew ?_ | with_reducible refine Only.drewN ?_ _ | with_reducible refine Only.alloc ?_ _ | ((with_reducible refine Only.setCell ?_ ?_ _); rotate_left; (focus (first | (left; simp; done) | (right; simp; done) | (right; simp; omega) | (right; omega))))))
      by_cases h3 : xk = 3
      · subst h3
        clear hE h1
        obtain ⟨ya, rfl⟩ : ∃ n : Nat, xb = n := ⟨xb.toNat, by omega⟩
        have hya : ya < 4 := by omega
        rcases hw.wait i hi with hwt | hwt | hwt
        · have HR := Lib.hid (show how s (s.ts i) = 3 by rw [HH.out, hwt]; simp)
          clear HH
          go_enter Try.func31, Try.ntmps31
          go_wp2_with fail
          refine HE.out.mono ?_
          clear HE
          rintro e w1 ⟨rfl, hO1⟩
          have HO1 := Lib.hid hO1
          have H1 := Lib.hid (H.out.only0 hO1).1
          clear hO1
          obtain ⟨v, hB, _⟩ := H1.out.task i hi
          obtain ⟨hcell, hfr, hlt⟩ := hB.facts
          clear hB
          have HA := Lib.hid (act_ok H1.out hi hp)
          rw [hx] at HA
          unfold actV at HA
          go_wp2_with fail
          refine HA.out.mono ?_
          clear HA hcell hfr hlt
          rintro e w2 ⟨rfl, hO2⟩
          have HO2 := Lib.hid (HO1.out.trans hO2)
          have H2 := Lib.hid (H1.out.only0 hO2).1
          clear hO2
          obtain ⟨v2, hB, _⟩ := H2.out.task i hi
          obtain ⟨hcell, hfr, hlt⟩ := hB.facts
          have hlr := H2.out.lt
          clear hB
          rw [hwt] at hcell
          go_wp2
          go_quiet (fail)
          go_wp2
          go_quiet (fail)
          go_wp2
          go_quiet (fail)
          go_wp2
          go_quiet (fail)
          go_wp2
          refine bodyPost_ret (results_tmp rfl _ _ _) rfl ⟨?_, ?_⟩
          · rw [HR.out]; rfl
          · (repeat (first | with_reducible exact Only.refl _ _ | with_reducible exact HO2.out | with_reducible refine Only.drew ?_ | with_reducible refine Only.drewN ?_ _ | with_reducible refine Only.alloc ?_ _ | ((with_reducible refine Only.setCell ?_ ?_ _); rotate_left; (focus (first | (left; simp; done) | (right; simp; done) | (right; simp; omega) | (right; omega))))))
        · have HR := Lib.hid (show how s (s.ts i) = 5 by rw [HH.out, hwt]; simp)
          clear HH
          go_enter Try.func31, Try.ntmps31
          go_wp2_with fail
          refine HE.out.mono ?_
          clear HE
          rintro e w1 ⟨rfl, hO1⟩
          have HO1 := Lib.hid hO1
          have H1 := Lib.hid (H.out.only0 hO1).1
          clear hO1
          obtain ⟨v, hB, _⟩ := H1.out.task i hi
          obtain ⟨hcell, hfr, hlt⟩ := hB.facts
          clear hB
          have HA := Lib.hid (act_ok H1.out hi hp)
          rw [hx] at HA
          unfold actV at HA
          go_wp2_with fail
          refine HA.out.mono ?_
          clear HA hcell hfr hlt
          rintro e w2 ⟨rfl, hO2⟩
          have HO2 := Lib.hid (HO1.out.trans hO2)
          have H2 := Lib.hid (H1.out.only0 hO2).1
          clear hO2
          obtain ⟨v2, hB, _⟩ := H2.out.task i hi
          obtain ⟨hcell, hfr, hlt⟩ := hB.facts
          have hlr := H2.out.lt
          clear hB
          rw [hwt] at hcell
          go_wp2
          go_quiet (fail)
          go_wp2
          go_quiet (fail)
          go_wp2
          refine bodyPost_ret (results_tmp rfl _ _ _) rfl ⟨?_, ?_⟩
          · rw [HR.out]; rfl
          · (repeat (first | with_reducible exact Only.refl _ _ | with_reducible exact HO2.out | with_reducible refine Only.drew ?_ | with_reducible refine Only.drewN ?_ _ | with_reducible refine Only.alloc ?_ _ | ((with_reducible refine Only.setCell ?_ ?_ _); rotate_left; (focus (first | (left; simp; done) | (right; simp; done) | (right; simp; omega) | (right; omega))))))
        · by_cases hl : 0 ≤ s.locks ya
          · have hlz : decide (0 ≤ s.locks ya) = true := decide_eq_true hl
            have HR := Lib.hid (show how s (s.ts i) = 4 by rw [HH.out, hwt]; simp [hl])
            clear HH
            go_enter Try.func31, Try.ntmps31
            go_wp2_with fail
            refine HE.out.mono ?_
            clear HE
            rintro e w1 ⟨rfl, hO1⟩
            have HO1 := Lib.hid hO1
            have H1 := Lib.hid (H.out.only0 hO1).1
            clear hO1
            obtain ⟨v, hB, _⟩ := H1.out.task i hi
            obtain ⟨hcell, hfr, hlt⟩ := hB.facts
            clear hB
            have HA := Lib.hid (act_ok H1.out hi hp)
            rw [hx] at HA
            unfold actV at HA
            go_wp2_with fail
            refine HA.out.mono ?_
            clear HA hcell hfr hlt
            rintro e w2 ⟨rfl, hO2⟩
            have HO2 := Lib.hid (HO1.out.trans hO2)
            have H2 := Lib.hid (H1.out.only0 hO2).1
            clear hO2
            obtain ⟨v2, hB, _⟩ := H2.out.task i hi
            obtain ⟨hcell, hfr, hlt⟩ := hB.facts
            have hlr := H2.out.lt
            clear hB
            have cl := H2.out.cLock hya
            rw [hwt] at hcell
            go_wp2
            go_quiet (fail)
            go_wp2
            go_quiet (fail)
            go_wp2
            refine bodyPost_ret (results_tmp rfl _ _ _) rfl ⟨?_, ?_⟩
            · rw [HR.out]; rfl
            · (repeat (first | with_reducible exact Only.refl _ _ | with_reducible exact HO2.out | with_reducible refine Only.drew ?_ | with_reducible refine Only.drewN ?_ _ | with_reducible refine Only.alloc ?_ _ | ((with_reducible refine Only.setCell ?_ ?_ _); rotate_left; (focus (first | (left; simp; done) | (right; simp; done) | (right; simp; omega) | (right; omega))))))
          · have hlz : decide (0 ≤ s.locks ya) = false := decide_eq_false hl
            have HR := Lib.hid (show how s (s.ts i) = 3 by rw [HH.out, hwt]; simp [hl])
            clear HH
            go_enter Try.func31, Try.ntmps31
            go_wp2_with fail
            refine HE.out.mono ?_
            clear HE
            rintro e w1 ⟨rfl, hO1⟩
            have HO1 := Lib.hid hO1
            have H1 := Lib.hid (H.out.only0 hO1).1
            clear hO1
            obtain ⟨v, hB, _⟩ := H1.out.task i hi
            obtain ⟨hcell, hfr, hlt⟩ := hB.facts
            clear hB
            have HA := Lib.hid (act_ok H1.out hi hp)
            rw [hx] at HA
            unfold actV at HA
            go_wp2_with fail
            refine HA.out.mono ?_
            clear HA hcell hfr hlt
            rintro e w2 ⟨rfl, hO2⟩
            have HO2 := Lib.hid (HO1.out.trans hO2)
            have H2 := Lib.hid (H1.out.only0 hO2).1
            clear hO2
            obtain ⟨v2, hB, _⟩ := H2.out.task i hi
            obtain ⟨hcell, hfr, hlt⟩ := hB.facts
            have hlr := H2.out.lt
            clear hB
            have cl := H2.out.cLock hya
            rw [hwt] at hcell
            go_wp2
            go_quiet (fail)
            go_wp2
            go_quiet (fail)
            go_wp2
            go_quiet (fail)
            go_wp2
            go_quiet (fail)
            go_wp2
            refine bodyPost_ret (results_tmp rfl _ _ _) rfl ⟨?_, ?_⟩
            · rw [HR.out]; rfl
            · (repeat (first | with_reducible exact Only.refl _ _ | with_reducible exact HO2.out | with_reducible refine Only.drew ?_ | with_reducible refine Only.drewN ?_ _ | with_reducible refine Only.alloc ?_ _ | ((with_reducible refine Only.setCell ?_ ?_ _); rotate_left; (focus (first | (left; simp; done) | (right; simp; done) | (right; simp; omega) | (right; omega))))))
      by_cases h6 : xk = 6
      · subst h6
        clear hE h1 h3
        obtain ⟨ya, rfl⟩ : ∃ n : Nat, xa = n := ⟨xa.toNat, by omega⟩
        have hya : ya < 4 := by omega
        by_cases hl : s.room ≤ ((s.queues ya).length : Int)
        · have hlz : decide (s.room ≤ ((s.queues ya).length : Int)) = true := decide_eq_true hl
          have HR := Lib.hid (show how s (s.ts i) = 6 by rw [HH.out]; simp [hl])
          clear HH
          go_enter Try.func31, Try.ntmps31
          go_wp2_with fail
          refine HE.out.mono ?_
          clear HE
          rintro e w1 ⟨rfl, hO1⟩
          have HO1 := Lib.hid hO1
          have H1 := Lib.hid (H.out.only0 hO1).1
          clear hO1
          obtain ⟨v, hB, _⟩ := H1.out.task i hi
          obtain ⟨hcell, hfr, hlt⟩ := hB.facts
          clear hB
          have HA := Lib.hid (act_ok H1.out hi hp)
          rw [hx] at HA
          unfold actV at HA
          go_wp2_with fail
          refine HA.out.mono ?_
          clear HA hcell hfr hlt
          rintro e w2 ⟨rfl, hO2⟩
          have HO2 := Lib.hid (HO1.out.trans hO2)
          have H2 := Lib.hid (H1.out.only0 hO2).1
          clear hO2
          obtain ⟨v2, hB, _⟩ := H2.out.task i hi
          obtain ⟨hcell, hfr, hlt⟩ := hB.facts
          have hlr := H2.out.lt
          clear hB
          have cr := H2.out.cRoom
          obtain ⟨cq, hS⟩ := H2.out.sQueue hya
          obtain ⟨qa, qc, hqv, _, _⟩ := hS.shape
          rw [hqv] at cq
          clear hS
          go_wp2
          go_quiet (fail)
          go_wp2
          go_quiet (fail)
          go_wp2
          go_quiet (fail)
          go_wp2
          refine bodyPost_ret (results_tmp rfl _ _ _) rfl ⟨?_, ?_⟩
          · rw [HR.out]; rfl
          · (repeat (first | with_reducible exact Only.refl _ _ | with_reducible exact HO2.out | with_reducible refine Only.drew ?_ | with_reducible refine Only.drewN ?_ _ | with_reducible refine Only.alloc ?_ _ | ((with_reducible refine Only.setCell ?_ ?_ _); rotate_left; (focus (first | (left; simp; done) | (right; simp; done) | (right; simp; omega) | (right; omega))))))
        · have hlz : decide (s.room ≤ ((s.queues ya).length : Int)) = false := decide_eq_false hl
          have HR := Lib.hid (show how s (s.ts i) = 3 by rw [HH.out]; simp [hl])
          clear HH
          go_enter Try.func31, Try.ntmps31
          go_wp2_with fail
          refine HE.out.mono ?_
          clear HE
          rintro e w1 ⟨rfl, hO1⟩
          have HO1 := Lib.hid hO1
          have H1 := Lib.hid (H.out.only0 hO1).1
          clear hO1
          obtain ⟨v, hB, _⟩ := H1.out.task i hi
          obtain ⟨hcell, hfr, hlt⟩ := hB.facts
          clear hB
          have HA := Lib.hid (act_ok H1.out hi hp)
          rw [hx] at HA
          unfold actV at HA
          go_wp2_with fail
          refine HA.out.mono ?_
          clear HA hcell hfr hlt
          rintro e w2 ⟨rfl, hO2⟩
          have HO2 := Lib.hid (HO1.out.trans hO2)
          have H2 := Lib.hid (H1.out.only0 hO2).1
          clear hO2
          obtain ⟨v2, hB, _⟩ := H2.out.task i hi
          obtain ⟨hcell, hfr, hlt⟩ := hB.facts
          have hlr := H2.out.lt
          clear hB
          have cr := H2.out.cRoom
          obtain ⟨cq, hS⟩ := H2.out.sQueue hya
          obtain ⟨qa, qc, hqv, _, _⟩ := hS.shape
          rw [hqv] at cq
          clear hS
          go_wp2
          go_quiet (fail)
          go_wp2
          go_quiet (fail)
          go_wp2
          go_quiet (fail)
          go_wp2
          go_quiet (fail)
          go_wp2
          refine bodyPost_ret (results_tmp rfl _ _ _) rfl ⟨?_, ?_⟩
          · rw [HR.out]; rfl
          · (repeat (first | with_reducible exact Only.refl _ _ | with_reducible exact HO2.out | with_reducible refine Only.drew ?_ | with_reducible refine Only.drewN ?_ _ | with_reducible refine Only.alloc ?_ _ | ((with_reducible refine Only.setCell ?_ ?_ _); rotate_left; (focus (first | (left; simp; done) | (right; simp; done) | (right; simp; omega) | (right; omega))))))
      by_cases h7 : xk = 7
      · subst h7
        clear hE h1 h3 h6
        obtain ⟨ya, rfl⟩ : ∃ n : Nat, xa = n := ⟨xa.toNat, by omega⟩
        have hya : ya < 4 := by omega
        cases hq : s.queues ya with
        | nil =>
          have HR := Lib.hid (show how s (s.ts i) = 7 by rw [HH.out]; simp [hq])
          clear HH
          go_enter Try.func31, Try.ntmps31
          go_wp2_with fail
          refine HE.out.mono ?_
          clear HE
          rintro e w1 ⟨rfl, hO1⟩
          have HO1 := Lib.hid hO1
          have H1 := Lib.hid (H.out.only0 hO1).1
          clear hO1
          obtain ⟨v, hB, _⟩ := H1.out.task i hi
          obtain ⟨hcell, hfr, hlt⟩ := hB.facts
          clear hB
          have HA := Lib.hid (act_ok H1.out hi hp)
          rw [hx] at HA
          unfold actV at HA
          go_wp2_with fail
          refine HA.out.mono ?_
          clear HA hcell hfr hlt
          rintro e w2 ⟨rfl, hO2⟩
          have HO2 := Lib.hid (HO1.out.trans hO2)
          have H2 := Lib.hid (H1.out.only0 hO2).1
          clear hO2
          obtain ⟨v2, hB, _⟩ := H2.out.task i hi
          obtain ⟨hcell, hfr, hlt⟩ := hB.facts
          have hlr := H2.out.lt
          clear hB
          obtain ⟨cq, hS⟩ := H2.out.sQueue hya
          obtain ⟨qa, qc, hqv, _, _⟩ := hS.shape
          rw [hqv, hq, List.length_nil] at cq
          clear hS
          go_wp2
          go_quiet (fail)
          go_wp2
          go_quiet (fail)
          go_wp2
          go_quiet (fail)
          go_wp2
          go_quiet (fail)
          go_wp2
          refine bodyPost_ret (results_tmp rfl _ _ _) rfl ⟨?_, ?_⟩
          · rw [HR.out]; rfl
          · (repeat (first | with_reducible exact Only.refl _ _ | with_reducible exact HO2.out | with_reducible refine Only.drew ?_ | with_reducible refine Only.drewN ?_ _ | with_reducible refine Only.alloc ?_ _ | ((with_reducible refine Only.setCell ?_ ?_ _); rotate_left; (focus (first | (left; simp; done) | (right; simp; done) | (right; simp; omega) | (right; omega))))))
        | cons y l =>
          have HR := Lib.hid (show how s (s.ts i) = 3 by rw [HH.out]; simp [hq])
          clear HH
          have hz : ((l.length : Int) + 1 == 0) = false := by simp; omega
          go_enter Try.func31, Try.ntmps31
          go_wp2_with fail
          refine HE.out.mono ?_
          clear HE
          rintro e w1 ⟨rfl, hO1⟩
          have HO1 := Lib.hid hO1
          have H1 := Lib.hid (H.out.only0 hO1).1
          clear hO1
          obtain ⟨v, hB, _⟩ := H1.out.task i hi
          obtain ⟨hcell, hfr, hlt⟩ := hB.facts
          clear hB
          have HA := Lib.hid (act_ok H1.out hi hp)
          rw [hx] at HA
          unfold actV at HA
          go_wp2_with fail
          refine HA.out.mono ?_
          clear HA hcell hfr hlt
          rintro e w2 ⟨rfl, hO2⟩
          have HO2 := Lib.hid (HO1.out.trans hO2)
          have H2 := Lib.hid (H1.out.only0 hO2).1
          clear hO2
          obtain ⟨v2, hB, _⟩ := H2.out.task i hi
          obtain ⟨hcell, hfr, hlt⟩ := hB.facts
          have hlr := H2.out.lt
          clear hB
          obtain ⟨cq, hS⟩ := H2.out.sQueue hya
          obtain ⟨qa, qc, hqv, _, _⟩ := hS.shape
          rw [hqv, hq, List.length_cons] at cq
          clear hS
          go_wp2
          go_quiet (fail)
          go_wp2
          go_quiet (fail)
          go_wp2
          go_quiet (fail)
          go_wp2
          go_quiet (fail)
          go_wp2
          refine bodyPost_ret (results_tmp rfl _ _ _) rfl ⟨?_, ?_⟩
          · rw [HR.out]; rfl
          · (repeat (first | with_reducible exact Only.refl _ _ | with_reducible exact HO2.out | with_reducible refine Only.drew ?_ | with_reducible refine Only.drewN ?_ _ | with_reducible refine Only.alloc ?_ _ | ((with_reducible refine Only.setCell ?_ ?_ _); rotate_left; (focus (first | (left; simp; done) | (right; simp; done) | (right; simp; omega) | (right; omega))))))
      have HR := Lib.hid (show how s (s.ts i) = 3 by rw [HH.out]; simp [h1, h3, h6, h7])
      clear HH
      have e1 := hE 1 h1
      have e3 := hE 3 h3
      have e6 := hE 6 h6
      have e7 := hE 7 h7
      clear hE hact
      go_enter Try.func31, Try.ntmps31
      go_wp2_with fail
      refine HE.out.mono ?_
      clear HE
      rintro e w1 ⟨rfl, hO1⟩
      have HO1 := Lib.hid hO1
      have H1 := Lib.hid (H.out.only0 hO1).1
      clear hO1
      obtain ⟨v, hB, _⟩ := H1.out.task i hi
      obtain ⟨hcell, hfr, hlt⟩ := hB.facts
      clear hB
      have HA := Lib.hid (act_ok H1.out hi hp)
      rw [hx] at HA
      unfold actV at HA
      go_wp2_with fail
      refine HA.out.mono ?_
      clear HA hcell hfr hlt
      rintro e w2 ⟨rfl, hO2⟩
      have HO2 := Lib.hid (HO1.out.trans hO2)
      have H2 := Lib.hid (H1.out.only0 hO2).1
      clear hO2
      obtain ⟨v2, hB, _⟩ := H2.out.task i hi
      obtain ⟨hcell, hfr, hlt⟩ := hB.facts
      have hlr := H2.out.lt
      clear hB
      go_wp2
      go_quiet (fail)
      go_wp2
      go_quiet (fail)
      go_wp2
      go_quiet (fail)
      go_wp2
      go_quiet (fail)
      go_wp2
      refine bodyPost_ret (results_tmp rfl _ _ _) rfl ⟨?_, ?_⟩
      · rw [HR.out]; rfl
      · (repeat (first | with_reducible exact Only.refl _ _ | with_reducible exact HO2.out | with_reducible refine Only.drew ?_ | with_reducible refine Only.drewN ?_ _ | with_reducible refine Only.alloc ?_ _ | ((with_reducible refine Only.setCell ?_ ?_ _); rotate_left; (focus (first | (left; simp; done) | (right; simp; done) | (right; simp; omega) | (right; omega))))))
end Go.Proofs.Ytompelilflckkaa
/-
  The scheduler: who is ready; a panic caught; a lock let go.
-/
namespace Go.Proofs.Ytompelilflckkaa
open Go.RowKit Go.Fl

theorem info_parts {t : TypeId} {z : Value} {n b : Nat} (h : (Try.prog.info? t).map (fun i => (i.zero, i.size, i.bytes)) = some (some z, n, b)) : ∃ i, Try.prog.info? t = some i ∧ i.zero = some z ∧ i.size = n ∧ i.bytes = b := by
  cases hi : Try.prog.info? t with
  | none => rw [hi] at h; cases h
  | some i => rw [hi] at h; simp at h; exact ⟨i, rfl, h.1, h.2.1, h.2.2⟩
theorem info3 : (Try.prog.info? 3).map (fun i => (i.zero, i.size, i.bytes)) = some (some (iv 0), 1, 8) := by kernel_rfl
theorem info2 : (Try.prog.info? 2).map (fun i => (i.zero, i.size, i.bytes)) = some (some (iv 0), 1, 8) := by kernel_rfl
theorem info39 : (Try.prog.info? 39).map (fun i => (i.zero, i.size, i.bytes)) = some (some (.agg #[iv 0, iv 0]), 2, 16) := by kernel_rfl
theorem own_fresh {W : World} {m : Nat} {u v2 : Value} (hF : ∀ g, u.ownBlock = some g → W.heap.size ≤ g) (hat : v2.ownBlock = u.ownBlock ∨ v2.ownBlock = some m) (hs : W.heap.size ≤ m) : ∀ g, v2.ownBlock = some g → W.heap.size ≤ g := fun g hg => by
  rcases hat with h | h
  · exact hF g (h ▸ hg)
  · rw [h] at hg; injection hg with hg; omega
section
variable {w : World} {base r : Nat} {f : Nat → Value} {b : Nat → Nat} {s : S}
theorem ptrs_at {n i : Nat} (h : i < n) : (ptrs b n)[i]? = some (.pointer (some ⟨b i, 0, none⟩)) := by simp [ptrs, h]
theorem nats_append (x y : List Nat) : nats (x ++ y) = nats x ++ nats y := by simp [nats]
theorem ints_append (x y : List Int) : ints (x ++ y) = ints x ++ ints y := by simp [ints]
/-- The task's pointer, among those. -/
theorem RS.cTask (h : RS w base r f b s) {i : Nat} (hi : i < s.n) : ∃ g o c, f 0 = .slice (some ⟨g, o, none⟩) s.n c ∧ g < w.heap.size ∧ w.cell? ⟨g, o + i, none⟩ = some (.pointer (some ⟨b i, 0, none⟩)) := by
  obtain ⟨g, o, c, hv, hg, _, _, hc, _⟩ := h.sTasks.2.form (by omega)
  exact ⟨g, o, c, hv, hg, (hc i (by omega)).trans (ptrs_at hi)⟩
end
def readyTo (s : S) (k : Nat) : List Nat := (List.range k).filter fun i => decide (how s (s.ts i) = 3)
theorem readyTo_succ (s : S) (k : Nat) : readyTo s (k + 1) = readyTo s k ++ (if how s (s.ts k) = 3 then [k] else []) := by
  unfold readyTo
  rw [List.range_succ, List.filter_append]
  by_cases h : how s (s.ts k) = 3 <;> simp [h]
theorem readyTo_len (s : S) (k : Nat) : (readyTo s k).length ≤ k := by
  have := List.length_filter_le (fun i => decide (how s (s.ts i) = 3)) (List.range k)
  rwa [List.length_range] at this

set_option maxRecDepth 100000 in
set_option maxHeartbeats 3200000 in
theorem ready_ok {w : World} {base r : Nat} {f : Nat → Value} {b : Nat → Nat} {s : S} {L : Nat} (h : RS w base r f b s) (hw : WF s L) (hL : L ≤ 65536) :
    Calls Try.prog 33 #[.pointer (some ⟨r, 0, none⟩)] w fun e w' => ∃ u, e = .returned u ∧ Sl w' 3 1 u (ready s).length (nats (ready s)) ∧ (∀ g, u.ownBlock = some g → w.heap.size ≤ g) ∧ Only [] w w' := by
  obtain ⟨j3, si, sz0, sz1, sz2⟩ := info_parts info3
  have hn := hw.n
  obtain ⟨c0, hS⟩ := h.sTasks
  obtain ⟨ta, tc, htv, _, _⟩ := hS.shape
  have HT := Lib.hid htv
  rw [htv] at c0
  have hlt := h.lt
  have H := Lib.hid h
  clear h hS htv
  go_enter Try.func33, Try.ntmps33
  go_wp2
  go_loopw [3, 11] (fun u z wr => ∃ k : Nat, k ≤ s.n ∧ z = .int .i64 k ∧ Hid (Sl wr 3 1 u (readyTo s k).length (nats (readyTo s k))) ∧ Hid (∀ g, u.ownBlock = some g → w.heap.size ≤ g) ∧ Hid (Only [] w wr)) (fun _ z _ => s.n - (intOf z).toNat)
  case atStart => exact ⟨0, Nat.zero_le _, rfl, Lib.hid (Sl.nil _ _ _), Lib.hid (fun g hg => by simp [Value.ownBlock] at hg), Lib.hid (Only.refl _ _)⟩
  case round =>
    obtain ⟨k, hk, rfl, HS, HF, HO⟩ := hrel
    by_cases hkl : k < s.n
    · have hkz : (k : Int) < (s.n : Int) := by omega
      have H1 := Lib.hid (H.out.only0 HO.out).1
      obtain ⟨g, o, c, hv, hg, hc⟩ := H1.out.cTask hkl
      rw [HT.out] at hv
      injection hv with e1 _ e3
      subst e1
      subst e3
      have HA := Lib.hid (how_ok H1.out hw hL hkl)
      have HLn := readyTo_len s k
      by_cases hr : how s (s.ts k) = 3
      · have HE := Lib.hid (show readyTo s (k + 1) = readyTo s k ++ [k] by rw [readyTo_succ, if_pos hr])
        rw [hr] at HA
        go_wp2_with fail
        refine HA.out.mono ?_
        clear HA hc
        rintro e w1 ⟨rfl, hO⟩
        have HO1 := Lib.hid (HO.out.trans hO)
        have HS1 := Lib.hid (HS.out.only hO (by simp))
        clear hO
        go_wp2_with (at_builtin; refine wpList_append_one (news := [.int .i64 (k : Nat)]) rfl (.tmp 20) (.tmp 22) 23 rfl 3 j3 _ 1 8 Try.underlying23 si sz0 sz1 sz2 rfl (by decide) rfl (HS1.out.alloc _) rfl (Blk.new _ _ _) rfl (by simp [Value.oneCell']) (by unfold maxLen; omega) (by omega) ?_)
        intro v2 w2 hS2 hg2 hat2
        have HS2 : Hid (Sl w2 3 1 v2 (readyTo s (k + 1)).length (nats (readyTo s (k + 1)))) := Lib.hid (by rw [HE.out, nats_append, List.length_append]; exact hS2)
        have HF2 := Lib.hid (own_fresh HF.out (hat2.imp (fun e => e) (fun e => by first | exact e | (rw [e]; simp))) (show w.heap.size ≤ w1.heap.size + 1 by have := HO1.out.size; omega))
        have HO2 := Lib.hid ((HO1.out.alloc (.cells #[.int .i64 (k : Nat)] 3)).grown hg2 (fun k hk => .inr (HF.out k hk)))
        clear hS2 hg2 hat2
        go_wp2
        go_roundw
        case measure => simp [intOf]; omega
        case rel => exact ⟨k + 1, by omega, by go_num, HS2, HF2, HO2⟩
      · have HE := Lib.hid (show readyTo s (k + 1) = readyTo s k by rw [readyTo_succ, if_neg hr, List.append_nil])
        have hz : (how s (s.ts k) == 3) = false := by simpa using hr
        go_wp2_with fail
        refine HA.out.mono ?_
        clear HA hc
        rintro e w1 ⟨rfl, hO⟩
        have HO1 := Lib.hid (HO.out.trans hO)
        have HS1 := Lib.hid (HS.out.only hO (by simp))
        clear hO
        go_wp2
        go_roundw
        case measure => simp [intOf]; omega
        case rel => exact ⟨k + 1, by omega, by go_num, by rw [HE.out]; exact HS1, HF, HO1⟩
    · obtain rfl : k = s.n := by omega
      go_wp2
      go_ret
      exact ⟨_, rfl, HS.out, HF.out, HO.out⟩
end Go.Proofs.Ytompelilflckkaa
/-
  The scheduler: whose turn it is; a panic caught; a lock let go.
-/
namespace Go.Proofs.Ytompelilflckkaa
open Go.RowKit Go.Fl

theorem nats_at {l : List Nat} {i : Nat} (h : i < l.length) : (nats l)[i]? = some (iv (l[i] : Nat)) := by simp [nats, h]
abbrev natv (n : Nat) : Value := iv n

set_option maxRecDepth 100000 in
set_option maxHeartbeats 3200000 in
theorem next_ok {w : World} {base r : Nat} {f : Nat → Value} {b : Nat → Nat} {s : S} {u pv : Value} {l picks : List Nat} (h : RS w base r f b s) (hu : Sl w 3 1 u l.length (nats l)) (hl : 0 < l.length) (hl2 : l.length ≤ 16) (hp : Row natv w pv picks) (ht : s.trace.length ≤ 65536) :
    Calls Try.prog 41 #[.pointer (some ⟨r, 0, none⟩), u, pv] w fun e w' => e = .returned (iv (next s l picks)) ∧ Only [] w w' := by
  obtain ⟨ct, hS⟩ := h.sTrace
  obtain ⟨tra, trc, htv, _, _⟩ := hS.shape
  rw [htv] at ct
  have hlt := h.lt
  have cl := h.cLast
  obtain ⟨g, o, c, hv, hg, _, _, hcc, _⟩ := hu.form hl
  subst hv
  obtain ⟨pa, pc, hpv, hpc, hpm, hpcc⟩ := hp
  subst hpv
  have HU := Lib.hid hu
  clear hS hu
  by_cases hk : s.trace.length < picks.length
  · have hkz : (s.trace.length : Int) < (picks.length : Int) := by omega
    obtain ⟨gp, op, ha, hgp, hpcd⟩ := hpcc (by omega)
    clear hpcc
    subst ha
    obtain ⟨x, hx⟩ : ∃ x, picks[s.trace.length] = x := ⟨_, rfl⟩
    have cp : w.cell? ⟨gp, op + s.trace.length, none⟩ = some (iv x) := hx ▸ hpcd _ hk
    have hlz : ¬ (l.length : Int) = 0 := by omega
    have hm : x % l.length < l.length := Nat.mod_lt _ hl
    have cm := (hcc (x % l.length) (by omega)).trans (nats_at hm)
    have HN := Lib.hid (show next s l picks = l[x % l.length] by unfold next; rw [dif_pos hk, hx, List.getD_eq_getElem?_getD, List.getElem?_eq_getElem hm]; rfl)
    have hmz : (x : Int) % (l.length : Int) < (l.length : Int) := by omega
    clear hpcd hcc hx
    go_enter Try.func41, Try.ntmps41
    go_wp2
    refine bodyPost_ret (results_tmp rfl _ _ _) rfl ⟨?_, Only.refl _ _⟩
    rw [HN.out]; rfl
  · have hkz : (picks.length : Int) ≤ (s.trace.length : Int) := by omega
    have HN := Lib.hid (show next s l picks = match l.find? (fun (i : Nat) => decide (s.last < (i : Int))) with
        | some i => i
        | none => l.getD 0 0 by unfold next; rw [dif_neg hk]; rfl)
    go_enter Try.func41, Try.ntmps41
    go_wp2
    go_loopw [31] (fun z wr => ∃ k : Nat, k ≤ l.length ∧ z = .int .i64 k ∧ Hid (wr = w) ∧ Hid (∀ i (h : i < l.length), i < k → ¬ s.last < (l[i] : Int))) (fun z _ => l.length - (intOf z).toNat)
    case atStart => exact ⟨0, Nat.zero_le _, rfl, Lib.hid rfl, Lib.hid (fun i _ h => by omega)⟩
    case round =>
      obtain ⟨k, hk2, rfl, HW, HB⟩ := hrel
      obtain rfl := HW.out
      by_cases hkl : k < l.length
      · have hklz : (k : Int) < (l.length : Int) := by omega
        have cm := (hcc k (by omega)).trans (nats_at hkl)
        by_cases hlt2 : s.last < (l[k] : Int)
        · have HR := Lib.hid (show next s l picks = l[k] by
            rw [HN.out]
            have : l.find? (fun (i : Nat) => decide (s.last < (i : Int))) = some l[k] := by
              rw [List.find?_eq_some_iff_getElem]
              exact ⟨by simpa using hlt2, k, hkl, rfl, fun j hj => by simpa using HB.out j (by omega) hj⟩
            rw [this])
          generalize l[k] = y at *
          clear hcc
          go_wp2
          refine bodyPost_ret (results_tmp rfl _ _ _) rfl ⟨?_, Only.refl _ _⟩
          rw [HR.out]; rfl
        · have HB2 := Lib.hid (show ∀ i (h : i < l.length), i < k + 1 → ¬ s.last < (l[i] : Int) from fun i hi hik => by
            rcases Nat.lt_succ_iff_lt_or_eq.1 hik with h1 | h1
            · exact HB.out i hi h1
            · subst h1; exact hlt2)
          have hge : (l[k] : Int) ≤ s.last := by omega
          have hgd : decide (s.last < (l[k] : Int)) = false := decide_eq_false hlt2
          generalize hy : l[k] = y at *
          clear hy hlt2 hcc
          go_wp2
          go_roundw
          case measure => simp [intOf]; omega
          case rel => exact ⟨k + 1, by omega, by go_num, Lib.hid (by trivial), HB2⟩
      · obtain rfl : k = l.length := by omega
        have cm := (hcc 0 (by omega)).trans (nats_at hl)
        have HR := Lib.hid (show next s l picks = l[0] by
          rw [HN.out]
          have : l.find? (fun (i : Nat) => decide (s.last < (i : Int))) = none := by
            rw [List.find?_eq_none]
            intro x hx
            obtain ⟨i, hi, rfl⟩ := List.getElem_of_mem hx
            simpa using HB.out i hi hi
          rw [this, List.getD_eq_getElem?_getD, List.getElem?_eq_getElem hl]; rfl)
        have hlz : (0 : Int) < (l.length : Int) := by omega
        rw [Nat.add_zero] at cm
        generalize l[0] = y at *
        clear hcc
        go_wp2
        refine bodyPost_ret (results_tmp rfl _ _ _) rfl ⟨?_, Only.refl _ _⟩
        rw [HR.out]; rfl

/-- A task is turned, told by what it was. -/
theorem RS.setT2 {w : World} {base r : Nat} {f : Nat → Value} {b : Nat → Nat} {s : S} (h : RS w base r f b s) {i j : Nat} (hi : i < s.n) {u : Value} {t0 t : T} (h0 : s.ts i = t0) (ha : t.acts = t0.acts)
    (hc : ∀ v, SetEq (#[v, iv t0.pc, iv t0.guard, iv t0.wait, .bool t0.died, iv t0.num].setIfInBounds j u) #[v, iv t.pc, iv t.guard, iv t.wait, .bool t.died, iv t.num]) :
    RS (w.setCell ⟨b i, j, none⟩ u) base r f b (s.setT i t) ∧ Below base w (w.setCell ⟨b i, j, none⟩ u) := by
  subst h0
  exact h.setT hi ha hc

set_option maxRecDepth 100000 in
theorem caught_ok' {w : World} {base r : Nat} {f : Nat → Value} {b : Nat → Nat} {s : S} {i : Nat} (h : RS w base r f b s) (hi : i < s.n) (hg : -1 ≤ (s.ts i).guard) (n : Int) :
    Calls Try.prog 45 #[.pointer (some ⟨r, 0, none⟩), .pointer (some ⟨b i, 0, none⟩), iv n] w fun e w' => e = .returned (.tuple #[]) ∧ (∃ f', RS w' base r f' b (caught s i n)) ∧ Below base w w' := by
  obtain ⟨v, hB, hA⟩ := h.task i hi
  obtain ⟨hcell, hfr, hlt⟩ := hB.facts
  have hlr := h.lt
  have hfr2 := h.rc.blk.frozen
  obtain ⟨x21, c21⟩ : ∃ x, w.cell? ⟨r, 21, none⟩ = some x := ⟨_, h.cReg (k := 7) (by omega)⟩
  have hne : b i ≠ r := fun e => by have := (e ▸ hB : Blk w r 80 _).ty_eq h.rc.blk; cases this
  have H := Lib.hid h
  clear h hA hB
  by_cases hgd : (s.ts i).guard < 0
  · have HE := Lib.hid (show caught s i n = (s.setT i { s.ts i with died := true }).setT i { s.ts i with died := true, num := n } by unfold caught; rw [if_pos hgd, setT_setT])
    go_enter Try.func45, Try.ntmps45
    go_wp2
    refine bodyPost_ret (results_none rfl _ _ _) rfl ?_
    obtain ⟨h1, b1⟩ := H.out.setT2 hi (j := 4) (u := .bool true) (t := { s.ts i with died := true }) rfl rfl (fun _ => rfl)
    obtain ⟨h2, b2⟩ := h1.setT2 hi (j := 5) (u := iv n) (t := { s.ts i with died := true, num := n }) (setT_ts _ _ _) rfl (fun _ => rfl)
    exact ⟨rfl, ⟨f, by rw [HE.out]; exact h2⟩, b1.trans b2⟩
  · have hge : 0 ≤ (s.ts i).guard := by omega
    have HE := Lib.hid (show caught s i n = (((s.setT i { s.ts i with pc := (s.ts i).guard.toNat }).setT i { s.ts i with pc := (s.ts i).guard.toNat, guard := -1 }).setT i { s.ts i with pc := (s.ts i).guard.toNat, guard := -1, wait := 0 }).setReg 7 n by
      unfold caught; rw [if_neg hgd, setT_setT, setT_setT])
    go_enter Try.func45, Try.ntmps45
    go_wp2
    go_end0
    obtain ⟨h1, b1⟩ := H.out.setT2 hi (j := 1) (u := iv (s.ts i).guard) (t := { s.ts i with pc := (s.ts i).guard.toNat }) rfl rfl (fun v => by
      show (#[v, iv (s.ts i).guard, iv (s.ts i).guard, iv (s.ts i).wait, .bool (s.ts i).died, iv (s.ts i).num] : Array Value) = #[v, iv ((s.ts i).guard.toNat : Nat), iv (s.ts i).guard, iv (s.ts i).wait, .bool (s.ts i).died, iv (s.ts i).num]
      rw [Int.toNat_of_nonneg hge])
    obtain ⟨h2, b2⟩ := h1.setT2 hi (j := 2) (u := iv (-1)) (t := { s.ts i with pc := (s.ts i).guard.toNat, guard := -1 }) (setT_ts _ _ _) rfl (fun _ => rfl)
    obtain ⟨h3, b3⟩ := h2.setT2 hi (j := 3) (u := iv 0) (t := { s.ts i with pc := (s.ts i).guard.toNat, guard := -1, wait := 0 }) (setT_ts _ _ _) rfl (fun _ => rfl)
    obtain ⟨h4, b4⟩ := h3.reg (k := 7) (by omega) n
    exact ⟨rfl, ⟨_, by rw [HE.out]; exact h4⟩, ((b1.trans b2).trans b3).trans b4⟩
end Go.Proofs.Ytompelilflckkaa
