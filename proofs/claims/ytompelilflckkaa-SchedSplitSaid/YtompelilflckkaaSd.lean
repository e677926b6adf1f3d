/-
  The scheduler: how a task stands.
-/
import Derived.Test.YtompelilflckkaaSc
namespace Go.Proofs.Ytompelilflckkaa
open Go.RowKit Go.Fl

section
variable {w : World} {base r : Nat} {f : Nat → Value} {b : Nat → Nat} {s : S}
theorem RS.cLock (h : RS w base r f b s) {k : Nat} (hk : k < 4) : w.cell? ⟨r, 2 + k, none⟩ = some (iv (s.locks k)) := h.rc.cellv (by omega) (spec_lock hk)
theorem RS.cReg (h : RS w base r f b s) {k : Nat} (hk : k < 8) : w.cell? ⟨r, 14 + k, none⟩ = some (iv (s.regs k)) := h.rc.cellv (by omega) (spec_reg hk)
theorem RS.cRoom (h : RS w base r f b s) : w.cell? ⟨r, 1, none⟩ = some (iv s.room) := h.rc.cellv (by omega) rfl
theorem RS.cLast (h : RS w base r f b s) : w.cell? ⟨r, 22, none⟩ = some (iv s.last) := h.rc.cellv (by omega) rfl
theorem RS.sQueue (h : RS w base r f b s) {k : Nat} (hk : k < 4) : w.cell? ⟨r, 10 + k, none⟩ = some (f (10 + k)) ∧ Sl w 2 1 (f (10 + k)) (s.queues k).length (ints (s.queues k)) := ⟨h.rc.cell (by omega), h.rc.row (by omega) (spec_queue hk)⟩
theorem RS.sCond (h : RS w base r f b s) {k : Nat} (hk : k < 4) : w.cell? ⟨r, 6 + k, none⟩ = some (f (6 + k)) ∧ Sl w 3 1 (f (6 + k)) (s.conds k).length (nats (s.conds k)) := ⟨h.rc.cell (by omega), h.rc.row (by omega) (spec_cond hk)⟩
theorem RS.sTrace (h : RS w base r f b s) : w.cell? ⟨r, 23, none⟩ = some (f 23) ∧ Sl w 39 2 (f 23) s.trace.length (turns s.trace) := ⟨h.rc.cell (by omega), h.rc.row (by omega) rfl⟩
theorem RS.sTasks (h : RS w base r f b s) : w.cell? ⟨r, 0, none⟩ = some (f 0) ∧ Sl w 77 1 (f 0) s.n (ptrs b s.n) := ⟨h.rc.cell (by omega), h.rc.row (by omega) rfl⟩
theorem RS.lt (h : RS w base r f b s) : r < w.heap.size := h.rc.blk.lt
end


set_option maxRecDepth 100000 in
set_option maxHeartbeats 3200000 in
theorem how_ok {w : World} {base r : Nat} {f : Nat → Value} {b : Nat → Nat} {s : S} {i L : Nat} (h : RS w base r f b s) (hw : WF s L) (hL : L ≤ 65536) (hi : i < s.n) :
    Calls Try.prog 31 #[.pointer (some ⟨r, 0, none⟩), .pointer (some ⟨b i, 0, none⟩)] w fun e w' => e = .returned (iv (how s (s.ts i))) ∧ Only [] w w' := by
  have hpc := hw.pc i hi
  have hln := hw.lens i hi
  obtain ⟨v, hB, _⟩ := h.task i hi
  obtain ⟨hcell, hfr, hlt⟩ := hB.facts
  have H := Lib.hid h
  have HE := Lib.hid (ended_ok h hi (by omega))
  cases hd : (s.ts i).died with
  | true =>
    have HH := Lib.hid (show how s (s.ts i) = 2 by unfold how; rw [if_pos hd])
    rw [hd] at hcell
    clear hB h
    go_enter Try.func31, Try.ntmps31
    go_wp2
    refine bodyPost_ret (results_tmp rfl _ _ _) rfl ⟨?_, Only.refl _ _⟩
    rw [HH.out]; rfl
  | false =>
    rw [hd] at hcell
    have hov : over (s.ts i) = decide ((s.ts i).acts.length ≤ (s.ts i).pc) := by unfold over; rw [hd]; simp
    rw [hov] at HE
    clear hov hB h
    by_cases hp : (s.ts i).acts.length ≤ (s.ts i).pc
    · have HH := Lib.hid (show how s (s.ts i) = 1 by unfold how; rw [if_neg (by simp [hd]), if_pos hp])
      rw [decide_eq_true hp] at HE
      go_enter Try.func31, Try.ntmps31
      go_wp2_with fail
      refine HE.out.mono ?_
      clear HE
      rintro e w1 ⟨rfl, hO1⟩
      have HO1 := Lib.hid hO1
      clear hO1
      go_wp2
      refine bodyPost_ret (results_tmp rfl _ _ _) rfl ⟨?_, HO1.out⟩
      rw [HH.out]; rfl
    · rw [decide_eq_false hp] at HE
      have hp : (s.ts i).pc < (s.ts i).acts.length := by omega
      have HH := Lib.hid (show how s (s.ts i) = if ((s.ts i).act.kind = 1 ∧ 0 ≤ s.locks (s.ts i).act.a.toNat) ∨ ((s.ts i).act.kind = 3 ∧ (s.ts i).wait = 2 ∧ 0 ≤ s.locks (s.ts i).act.b.toNat) then 4
        else if (s.ts i).act.kind = 3 ∧ (s.ts i).wait = 1 then 5
        else if (s.ts i).act.kind = 6 ∧ s.room ≤ (s.queues (s.ts i).act.a.toNat).length then 6
        else if (s.ts i).act.kind = 7 ∧ s.queues (s.ts i).act.a.toNat = [] then 7
        else 3 by unfold how; rw [if_neg (by simp [hd]), if_neg (by omega)])
      have hact : okA (s.ts i).acts.length (s.ts i).act := hw.acts i hi _ (by unfold T.act; rw [List.getD_eq_getElem?_getD, List.getElem?_eq_getElem hp]; exact List.getElem_mem hp)
      generalize hx : (s.ts i).act = x at *
      obtain ⟨xk, xa, xb, xn⟩ := x
      unfold okA at hact
      dsimp only at HH hact
      have hE : ∀ z : Int, ¬ xk = z → (xk == z) = false := fun z hz => by simpa using hz
      by_cases h1 : xk = 1
      · subst h1
        clear hE
        obtain ⟨ya, rfl⟩ : ∃ n : Nat, xa = n := ⟨xa.toNat, by omega⟩
        have hya : ya < 4 := by omega
        by_cases hl : 0 ≤ s.locks ya
        · have hlz : decide (0 ≤ s.locks ya) = true := decide_eq_true hl
          have HR := Lib.hid (show how s (s.ts i) = 4 by rw [HH.out]; simp [hl])
          clear HH
          go_enter Try.func31, Try.ntmps31
          go_wp2_with fail
          refine HE.out.mono ?_
          clear HE
          rintro e w1 ⟨rfl, hO1⟩
          have HO1 := Lib.hid hO1
          have H1 := Lib.hid (H.out.only0 hO1).1
          clear hO1
          obtain ⟨v, hB, _⟩ := H1.out.task i hi
          obtain ⟨hcell, hfr, hlt⟩ := hB.facts
          clear hB
          have HA := Lib.hid (act_ok H1.out hi hp)
          rw [hx] at HA
          unfold actV at HA
          go_wp2_with fail
          refine HA.out.mono ?_
          clear HA hcell hfr hlt
          rintro e w2 ⟨rfl, hO2⟩
          have HO2 := Lib.hid (HO1.out.trans hO2)
          have H2 := Lib.hid (H1.out.only0 hO2).1
          clear hO2
          obtain ⟨v2, hB, _⟩ := H2.out.task i hi
          obtain ⟨hcell, hfr, hlt⟩ := hB.facts
          have hlr := H2.out.lt
          clear hB
          have cl := H2.out.cLock hya
          go_wp2
          go_quiet (fail)
          go_wp2
          refine bodyPost_ret (results_tmp rfl _ _ _) rfl ⟨?_, ?_⟩
          · rw [HR.out]; rfl
          · (repeat (first | with_reducible exact Only.refl _ _ | with_reducible exact HO2.out | with_reducible refine Only.drew ?_ | with_reducible refine Only.drewN ?_ _ | with_reducible refine Only.alloc ?_ _ | ((with_reducible refine Only.setCell ?_ ?_ _); rotate_left; (focus (first | (left; simp; done) | (right; simp; done) | (right; simp; omega) | (right; omega))))))
        · have hlz : decide (0 ≤ s.locks ya) = false := decide_eq_false hl
          have HR := Lib.hid (show how s (s.ts i) = 3 by rw [HH.out]; simp [hl])
          clear HH
          go_enter Try.func31, Try.ntmps31
          go_wp2_with fail
          refine HE.out.mono ?_
          clear HE
          rintro e w1 ⟨rfl, hO1⟩
          have HO1 := Lib.hid hO1
          have H1 := Lib.hid (H.out.only0 hO1).1
          clear hO1
          obtain ⟨v, hB, _⟩ := H1.out.task i hi
          obtain ⟨hcell, hfr, hlt⟩ := hB.facts
          clear hB
          have HA := Lib.hid (act_ok H1.out hi hp)
          rw [hx] at HA
          unfold actV at HA
          go_wp2_with fail
          refine HA.out.mono ?_
          clear HA hcell hfr hlt
          rintro e w2 ⟨rfl, hO2⟩
          have HO2 := Lib.hid (HO1.out.trans hO2)
          have H2 := Lib.hid (H1.out.only0 hO2).1
          clear hO2
          obtain ⟨v2, hB, _⟩ := H2.out.task i hi
          obtain ⟨hcell, hfr, hlt⟩ := hB.facts
          have hlr := H2.out.lt
          clear hB
          have cl := H2.out.cLock hya
          go_wp2
          go_quiet (fail)
          go_wp2
          go_quiet (fail)
          go_wp2
          go_quiet (fail)
          go_wp2
          go_quiet (fail)
          go_wp2
          refine bodyPost_ret (results_tmp rfl _ _ _) rfl ⟨?_, ?_⟩
          · rw [HR.out]; rfl
          · (repeat (first | with_reducible exact Only.refl _ _ | with_reducible exact HO2.out | with_reducible refine Only.drew ?_ | with_reducible refine Only.drewN ?_ _ | with_reducible refine Only.alloc ?_ _ | ((with_reducible refine Only.setCell ?_ ?_ _); rotate_left; (focus (first | (left; simp; done) | (right; simp; done) | (right; simp; omega) | (right; omega))))))
      by_cases h3 : xk = 3
      · subst h3
        clear hE h1
        obtain ⟨ya, rfl⟩ : ∃ n : Nat, xb = n := ⟨xb.toNat, by omega⟩
        have hya : ya < 4 := by omega
        rcases hw.wait i hi with hwt | hwt | hwt
        · have HR := Lib.hid (show how s (s.ts i) = 3 by rw [HH.out, hwt]; simp)
          clear HH
          go_enter Try.func31, Try.ntmps31
          go_wp2_with fail
          refine HE.out.mono ?_
          clear HE
          rintro e w1 ⟨rfl, hO1⟩
          have HO1 := Lib.hid hO1
          have H1 := Lib.hid (H.out.only0 hO1).1
          clear hO1
          obtain ⟨v, hB, _⟩ := H1.out.task i hi
          obtain ⟨hcell, hfr, hlt⟩ := hB.facts
          clear hB
          have HA := Lib.hid (act_ok H1.out hi hp)
          rw [hx] at HA
          unfold actV at HA
          go_wp2_with fail
          refine HA.out.mono ?_
          clear HA hcell hfr hlt
          rintro e w2 ⟨rfl, hO2⟩
          have HO2 := Lib.hid (HO1.out.trans hO2)
          have H2 := Lib.hid (H1.out.only0 hO2).1
          clear hO2
          obtain ⟨v2, hB, _⟩ := H2.out.task i hi
          obtain ⟨hcell, hfr, hlt⟩ := hB.facts
          have hlr := H2.out.lt
          clear hB
          rw [hwt] at hcell
          go_wp2
          go_quiet (fail)
          go_wp2
          go_quiet (fail)
          go_wp2
          go_quiet (fail)
          go_wp2
          go_quiet (fail)
          go_wp2
          refine bodyPost_ret (results_tmp rfl _ _ _) rfl ⟨?_, ?_⟩
          · rw [HR.out]; rfl
          · (repeat (first | with_reducible exact Only.refl _ _ | with_reducible exact HO2.out | with_reducible refine Only.drew ?_ | with_reducible refine Only.drewN ?_ _ | with_reducible refine Only.alloc ?_ _ | ((with_reducible refine Only.setCell ?_ ?_ _); rotate_left; (focus (first | (left; simp; done) | (right; simp; done) | (right; simp; omega) | (right; omega))))))
        · have HR := Lib.hid (show how s (s.ts i) = 5 by rw [HH.out, hwt]; simp)
          clear HH
          go_enter Try.func31, Try.ntmps31
          go_wp2_with fail
          refine HE.out.mono ?_
          clear HE
          rintro e w1 ⟨rfl, hO1⟩
          have HO1 := Lib.hid hO1
          have H1 := Lib.hid (H.out.only0 hO1).1
          clear hO1
          obtain ⟨v, hB, _⟩ := H1.out.task i hi
          obtain ⟨hcell, hfr, hlt⟩ := hB.facts
          clear hB
          have HA := Lib.hid (act_ok H1.out hi hp)
          rw [hx] at HA
          unfold actV at HA
          go_wp2_with fail
          refine HA.out.mono ?_
          clear HA hcell hfr hlt
          rintro e w2 ⟨rfl, hO2⟩
          have HO2 := Lib.hid (HO1.out.trans hO2)
          have H2 := Lib.hid (H1.out.only0 hO2).1
          clear hO2
          obtain ⟨v2, hB, _⟩ := H2.out.task i hi
          obtain ⟨hcell, hfr, hlt⟩ := hB.facts
          have hlr := H2.out.lt
          clear hB
          rw [hwt] at hcell
          go_wp2
          go_quiet (fail)
          go_wp2
          go_quiet (fail)
          go_wp2
          refine bodyPost_ret (results_tmp rfl _ _ _) rfl ⟨?_, ?_⟩
          · rw [HR.out]; rfl
          · (repeat (first | with_reducible exact Only.refl _ _ | with_reducible exact HO2.out | with_reducible refine Only.drew ?_ | with_reducible refine Only.drewN ?_ _ | with_reducible refine Only.alloc ?_ _ | ((with_reducible refine Only.setCell ?_ ?_ _); rotate_left; (focus (first | (left; simp; done) | (right; simp; done) | (right; simp; omega) | (right; omega))))))
        · by_cases hl : 0 ≤ s.locks ya
          · have hlz : decide (0 ≤ s.locks ya) = true := decide_eq_true hl
            have HR := Lib.hid (show how s (s.ts i) = 4 by rw [HH.out, hwt]; simp [hl])
            clear HH
            go_enter Try.func31, Try.ntmps31
            go_wp2_with fail
            refine HE.out.mono ?_
            clear HE
            rintro e w1 ⟨rfl, hO1⟩
            have HO1 := Lib.hid hO1
            have H1 := Lib.hid (H.out.only0 hO1).1
            clear hO1
            obtain ⟨v, hB, _⟩ := H1.out.task i hi
            obtain ⟨hcell, hfr, hlt⟩ := hB.facts
            clear hB
            have HA := Lib.hid (act_ok H1.out hi hp)
            rw [hx] at HA
            unfold actV at HA
            go_wp2_with fail
            refine HA.out.mono ?_
            clear HA hcell hfr hlt
            rintro e w2 ⟨rfl, hO2⟩
            have HO2 := Lib.hid (HO1.out.trans hO2)
            have H2 := Lib.hid (H1.out.only0 hO2).1
            clear hO2
            obtain ⟨v2, hB, _⟩ := H2.out.task i hi
            obtain ⟨hcell, hfr, hlt⟩ := hB.facts
            have hlr := H2.out.lt
            clear hB
            have cl := H2.out.cLock hya
            rw [hwt] at hcell
            go_wp2
            go_quiet (fail)
            go_wp2
            go_quiet (fail)
            go_wp2
            refine bodyPost_ret (results_tmp rfl _ _ _) rfl ⟨?_, ?_⟩
            · rw [HR.out]; rfl
            · (repeat (first | with_reducible exact Only.refl _ _ | with_reducible exact HO2.out | with_reducible refine Only.drew ?_ | with_reducible refine Only.drewN ?_ _ | with_reducible refine Only.alloc ?_ _ | ((with_reducible refine Only.setCell ?_ ?_ _); rotate_left; (focus (first | (left; simp; done) | (right; simp; done) | (right; simp; omega) | (right; omega))))))
          · have hlz : decide (0 ≤ s.locks ya) = false := decide_eq_false hl
            have HR := Lib.hid (show how s (s.ts i) = 3 by rw [HH.out, hwt]; simp [hl])
            clear HH
            go_enter Try.func31, Try.ntmps31
            go_wp2_with fail
            refine HE.out.mono ?_
            clear HE
            rintro e w1 ⟨rfl, hO1⟩
            have HO1 := Lib.hid hO1
            have H1 := Lib.hid (H.out.only0 hO1).1
            clear hO1
            obtain ⟨v, hB, _⟩ := H1.out.task i hi
            obtain ⟨hcell, hfr, hlt⟩ := hB.facts
            clear hB
            have HA := Lib.hid (act_ok H1.out hi hp)
            rw [hx] at HA
            unfold actV at HA
            go_wp2_with fail
            refine HA.out.mono ?_
            clear HA hcell hfr hlt
            rintro e w2 ⟨rfl, hO2⟩
            have HO2 := Lib.hid (HO1.out.trans hO2)
            have H2 := Lib.hid (H1.out.only0 hO2).1
            clear hO2
            obtain ⟨v2, hB, _⟩ := H2.out.task i hi
            obtain ⟨hcell, hfr, hlt⟩ := hB.facts
            have hlr := H2.out.lt
            clear hB
            have cl := H2.out.cLock hya
            rw [hwt] at hcell
            go_wp2
            go_quiet (fail)
            go_wp2
            go_quiet (fail)
            go_wp2
            go_quiet (fail)
            go_wp2
            go_quiet (fail)
            go_wp2
            refine bodyPost_ret (results_tmp rfl _ _ _) rfl ⟨?_, ?_⟩
            · rw [HR.out]; rfl
            · (repeat (first | with_reducible exact Only.refl _ _ | with_reducible exact HO2.out | with_reducible refine Only.drew ?_ | with_reducible refine Only.drewN ?_ _ | with_reducible refine Only.alloc ?_ _ | ((with_reducible refine Only.setCell ?_ ?_ _); rotate_left; (focus (first | (left; simp; done) | (right; simp; done) | (right; simp; omega) | (right; omega))))))
      by_cases h6 : xk = 6
      · subst h6
        clear hE h1 h3
        obtain ⟨ya, rfl⟩ : ∃ n : Nat, xa = n := ⟨xa.toNat, by omega⟩
        have hya : ya < 4 := by omega
        by_cases hl : s.room ≤ ((s.queues ya).length : Int)
        · have hlz : decide (s.room ≤ ((s.queues ya).length : Int)) = true := decide_eq_true hl
          have HR := Lib.hid (show how s (s.ts i) = 6 by rw [HH.out]; simp [hl])
          clear HH
          go_enter Try.func31, Try.ntmps31
          go_wp2_with fail
          refine HE.out.mono ?_
          clear HE
          rintro e w1 ⟨rfl, hO1⟩
          have HO1 := Lib.hid hO1
          have H1 := Lib.hid (H.out.only0 hO1).1
          clear hO1
          obtain ⟨v, hB, _⟩ := H1.out.task i hi
          obtain ⟨hcell, hfr, hlt⟩ := hB.facts
          clear hB
          have HA := Lib.hid (act_ok H1.out hi hp)
          rw [hx] at HA
          unfold actV at HA
          go_wp2_with fail
          refine HA.out.mono ?_
          clear HA hcell hfr hlt
          rintro e w2 ⟨rfl, hO2⟩
          have HO2 := Lib.hid (HO1.out.trans hO2)
          have H2 := Lib.hid (H1.out.only0 hO2).1
          clear hO2
          obtain ⟨v2, hB, _⟩ := H2.out.task i hi
          obtain ⟨hcell, hfr, hlt⟩ := hB.facts
          have hlr := H2.out.lt
          clear hB
          have cr := H2.out.cRoom
          obtain ⟨cq, hS⟩ := H2.out.sQueue hya
          obtain ⟨qa, qc, hqv, _, _⟩ := hS.shape
          rw [hqv] at cq
          clear hS
          go_wp2
          go_quiet (fail)
          go_wp2
          go_quiet (fail)
          go_wp2
          go_quiet (fail)
          go_wp2
          refine bodyPost_ret (results_tmp rfl _ _ _) rfl ⟨?_, ?_⟩
          · rw [HR.out]; rfl
          · (repeat (first | with_reducible exact Only.refl _ _ | with_reducible exact HO2.out | with_reducible refine Only.drew ?_ | with_reducible refine Only.drewN ?_ _ | with_reducible refine Only.alloc ?_ _ | ((with_reducible refine Only.setCell ?_ ?_ _); rotate_left; (focus (first | (left; simp; done) | (right; simp; done) | (right; simp; omega) | (right; omega))))))
        · have hlz : decide (s.room ≤ ((s.queues ya).length : Int)) = false := decide_eq_false hl
          have HR := Lib.hid (show how s (s.ts i) = 3 by rw [HH.out]; simp [hl])
          clear HH
          go_enter Try.func31, Try.ntmps31
          go_wp2_with fail
          refine HE.out.mono ?_
          clear HE
          rintro e w1 ⟨rfl, hO1⟩
          have HO1 := Lib.hid hO1
          have H1 := Lib.hid (H.out.only0 hO1).1
          clear hO1
          obtain ⟨v, hB, _⟩ := H1.out.task i hi
          obtain ⟨hcell, hfr, hlt⟩ := hB.facts
          clear hB
          have HA := Lib.hid (act_ok H1.out hi hp)
          rw [hx] at HA
          unfold actV at HA
          go_wp2_with fail
          refine HA.out.mono ?_
          clear HA hcell hfr hlt
          rintro e w2 ⟨rfl, hO2⟩
          have HO2 := Lib.hid (HO1.out.trans hO2)
          have H2 := Lib.hid (H1.out.only0 hO2).1
          clear hO2
          obtain ⟨v2, hB, _⟩ := H2.out.task i hi
          obtain ⟨hcell, hfr, hlt⟩ := hB.facts
          have hlr := H2.out.lt
          clear hB
          have cr := H2.out.cRoom
          obtain ⟨cq, hS⟩ := H2.out.sQueue hya
          obtain ⟨qa, qc, hqv, _, _⟩ := hS.shape
          rw [hqv] at cq
          clear hS
          go_wp2
          go_quiet (fail)
          go_wp2
          go_quiet (fail)
          go_wp2
          go_quiet (fail)
          go_wp2
          go_quiet (fail)
          go_wp2
          refine bodyPost_ret (results_tmp rfl _ _ _) rfl ⟨?_, ?_⟩
          · rw [HR.out]; rfl
          · (repeat (first | with_reducible exact Only.refl _ _ | with_reducible exact HO2.out | with_reducible refine Only.drew ?_ | with_reducible refine Only.drewN ?_ _ | with_reducible refine Only.alloc ?_ _ | ((with_reducible refine Only.setCell ?_ ?_ _); rotate_left; (focus (first | (left; simp; done) | (right; simp; done) | (right; simp; omega) | (right; omega))))))
      by_cases h7 : xk = 7
      · subst h7
        clear hE h1 h3 h6
        obtain ⟨ya, rfl⟩ : ∃ n : Nat, xa = n := ⟨xa.toNat, by omega⟩
        have hya : ya < 4 := by omega
        cases hq : s.queues ya with
        | nil =>
          have HR := Lib.hid (show how s (s.ts i) = 7 by rw [HH.out]; simp [hq])
          clear HH
          go_enter Try.func31, Try.ntmps31
          go_wp2_with fail
          refine HE.out.mono ?_
          clear HE
          rintro e w1 ⟨rfl, hO1⟩
          have HO1 := Lib.hid hO1
          have H1 := Lib.hid (H.out.only0 hO1).1
          clear hO1
          obtain ⟨v, hB, _⟩ := H1.out.task i hi
          obtain ⟨hcell, hfr, hlt⟩ := hB.facts
          clear hB
          have HA := Lib.hid (act_ok H1.out hi hp)
          rw [hx] at HA
          unfold actV at HA
          go_wp2_with fail
          refine HA.out.mono ?_
          clear HA hcell hfr hlt
          rintro e w2 ⟨rfl, hO2⟩
          have HO2 := Lib.hid (HO1.out.trans hO2)
          have H2 := Lib.hid (H1.out.only0 hO2).1
          clear hO2
          obtain ⟨v2, hB, _⟩ := H2.out.task i hi
          obtain ⟨hcell, hfr, hlt⟩ := hB.facts
          have hlr := H2.out.lt
          clear hB
          obtain ⟨cq, hS⟩ := H2.out.sQueue hya
          obtain ⟨qa, qc, hqv, _, _⟩ := hS.shape
          rw [hqv, hq, List.length_nil] at cq
          clear hS
          go_wp2
          go_quiet (fail)
          go_wp2
          go_quiet (fail)
          go_wp2
          go_quiet (fail)
          go_wp2
          go_quiet (fail)
          go_wp2
          refine bodyPost_ret (results_tmp rfl _ _ _) rfl ⟨?_, ?_⟩
          · rw [HR.out]; rfl
          · (repeat (first | with_reducible exact Only.refl _ _ | with_reducible exact HO2.out | with_reducible refine Only.drew ?_ | with_reducible refine Only.drewN ?_ _ | with_reducible refine Only.alloc ?_ _ | ((with_reducible refine Only.setCell ?_ ?_ _); rotate_left; (focus (first | (left; simp; done) | (right; simp; done) | (right; simp; omega) | (right; omega))))))
        | cons y l =>
          have HR := Lib.hid (show how s (s.ts i) = 3 by rw [HH.out]; simp [hq])
          clear HH
          have hz : ((l.length : Int) + 1 == 0) = false := by simp; omega
          go_enter Try.func31, Try.ntmps31
          go_wp2_with fail
          refine HE.out.mono ?_
          clear HE
          rintro e w1 ⟨rfl, hO1⟩
          have HO1 := Lib.hid hO1
          have H1 := Lib.hid (H.out.only0 hO1).1
          clear hO1
          obtain ⟨v, hB, _⟩ := H1.out.task i hi
          obtain ⟨hcell, hfr, hlt⟩ := hB.facts
          clear hB
          have HA := Lib.hid (act_ok H1.out hi hp)
          rw [hx] at HA
          unfold actV at HA
          go_wp2_with fail
          refine HA.out.mono ?_
          clear HA hcell hfr hlt
          rintro e w2 ⟨rfl, hO2⟩
          have HO2 := Lib.hid (HO1.out.trans hO2)
          have H2 := Lib.hid (H1.out.only0 hO2).1
          clear hO2
          obtain ⟨v2, hB, _⟩ := H2.out.task i hi
          obtain ⟨hcell, hfr, hlt⟩ := hB.facts
          have hlr := H2.out.lt
          clear hB
          obtain ⟨cq, hS⟩ := H2.out.sQueue hya
          obtain ⟨qa, qc, hqv, _, _⟩ := hS.shape
          rw [hqv, hq, List.length_cons] at cq
          clear hS
          go_wp2
          go_quiet (fail)
          go_wp2
          go_quiet (fail)
          go_wp2
          go_quiet (fail)
          go_wp2
          go_quiet (fail)
          go_wp2
          refine bodyPost_ret (results_tmp rfl _ _ _) rfl ⟨?_, ?_⟩
          · rw [HR.out]; rfl
          · (repeat (first | with_reducible exact Only.refl _ _ | with_reducible exact HO2.out | with_reducible refine Only.drew ?_ | with_reducible refine Only.drewN ?_ _ | with_reducible refine Only.alloc ?_ _ | ((with_reducible refine Only.setCell ?_ ?_ _); rotate_left; (focus (first | (left; simp; done) | (right; simp; done) | (right; simp; omega) | (right; omega))))))
      have HR := Lib.hid (show how s (s.ts i) = 3 by rw [HH.out]; simp [h1, h3, h6, h7])
      clear HH
      have e1 := hE 1 h1
      have e3 := hE 3 h3
      have e6 := hE 6 h6
      have e7 := hE 7 h7
      clear hE hact
      go_enter Try.func31, Try.ntmps31
      go_wp2_with fail
      refine HE.out.mono ?_
      clear HE
      rintro e w1 ⟨rfl, hO1⟩
      have HO1 := Lib.hid hO1
      have H1 := Lib.hid (H.out.only0 hO1).1
      clear hO1
      obtain ⟨v, hB, _⟩ := H1.out.task i hi
      obtain ⟨hcell, hfr, hlt⟩ := hB.facts
      clear hB
      have HA := Lib.hid (act_ok H1.out hi hp)
      rw [hx] at HA
      unfold actV at HA
      go_wp2_with fail
      refine HA.out.mono ?_
      clear HA hcell hfr hlt
      rintro e w2 ⟨rfl, hO2⟩
      have HO2 := Lib.hid (HO1.out.trans hO2)
      have H2 := Lib.hid (H1.out.only0 hO2).1
      clear hO2
      obtain ⟨v2, hB, _⟩ := H2.out.task i hi
      obtain ⟨hcell, hfr, hlt⟩ := hB.facts
      have hlr := H2.out.lt
      clear hB
      go_wp2
      go_quiet (fail)
      go_wp2
      go_quiet (fail)
      go_wp2
      go_quiet (fail)
      go_wp2
      go_quiet (fail)
      go_wp2
      refine bodyPost_ret (results_tmp rfl _ _ _) rfl ⟨?_, ?_⟩
      · rw [HR.out]; rfl
      · (repeat (first | with_reducible exact Only.refl _ _ | with_reducible exact HO2.out | with_reducible refine Only.drew ?_ | with_reducible refine Only.drewN ?_ _ | with_reducible refine Only.alloc ?_ _ | ((with_reducible refine Only.setCell ?_ ?_ _); rotate_left; (focus (first | (left; simp; done) | (right; simp; done) | (right; simp; omega) | (right; omega))))))
end Go.Proofs.Ytompelilflckkaa
