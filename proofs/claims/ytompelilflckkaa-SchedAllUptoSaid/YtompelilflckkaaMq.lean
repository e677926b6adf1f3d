/-
  The scheduler: which tasks may be.
-/
import Derived.Test.YtompelilflckkaaMp
import Derived.Test.YtompelilflckkaaMm
set_option linter.unusedSimpArgs false
set_option linter.unusedVariables false
namespace Go.Proofs.Ytompelilflckkaa
open Go.RowKit Go.Fl

def oddA (a : A) : Bool := decide (a.kind < 1) || decide (13 < a.kind)
def wrongA (len : Nat) (a : A) : Bool := !(rightB a.kind a.a a.b a.n len)
def oddsIn (acts : List (List A)) : Bool := acts.any fun l => l.any oddA
def wrongsIn (acts : List (List A)) : Bool := acts.any fun l => l.any (wrongA l.length)
/-- May tasks be? -/
def mayM (acts : List (List A)) : Int :=
  if 16 < acts.length ∨ acts.any (fun l => decide (256 < l.length)) = true then 9 else if oddsIn acts = true then 62 else if wrongsIn acts = true then 1 else 0
theorem any_succ {α : Type} (p : α → Bool) (l : List α) {k : Nat} (h : k < l.length) : (l.take (k + 1)).any p = ((l.take k).any p || p l[k]) := by
  rw [List.take_succ_eq_append_getElem h, List.any_append]; simp

set_option maxRecDepth 100000 in
set_option maxHeartbeats 6400000 in
theorem may_ok {base : Nat} {w : World} {tv : Value} {acts : List (List A)} (h : TasksV base w tv acts) (hb : base ≤ w.heap.size) :
    Calls Try.prog 11 #[tv] w fun e w' => e = .returned (iv (mayM acts)) ∧ Only [] w w' := by
  have H := Lib.hid h
  obtain ⟨a, c, hv, hc, hcm, _⟩ := h
  subst hv
  have hs0 : acts.length ≤ 9223372036854775807 := by unfold maxLen at hcm; omega
  by_cases h16 : 16 < acts.length
  · have h16z : (16 : Int) < (acts.length : Int) := by omega
    have HM := Lib.hid (show mayM acts = 9 by unfold mayM; rw [if_pos (.inl h16)])
    go_enter Try.func11, Try.ntmps11
    go_wp2
    refine bodyPost_ret (results_tmp rfl _ _ _) rfl ⟨?_, Only.refl _ _⟩
    rw [HM.out]; rfl
  · have h16z : (acts.length : Int) ≤ 16 := by omega
    go_enter Try.func11, Try.ntmps11
    go_wp2
    go_loopw [3, 4, 14] (fun u3 u4 z wr => ∃ (k : Nat) (o0 x0 : Bool), k ≤ acts.length ∧ z = .int .i64 k ∧ u3 = .bool o0 ∧ u4 = .bool x0 ∧ Hid (o0 = oddsIn (acts.take k)) ∧ Hid (x0 = wrongsIn (acts.take k)) ∧ Hid ((acts.take k).any (fun l => decide (256 < l.length)) = false) ∧ Hid (Only [] w wr)) (fun _ _ z _ => acts.length - (intOf z).toNat)
    case atStart => exact ⟨0, false, false, Nat.zero_le _, rfl, rfl, rfl, Lib.hid rfl, Lib.hid rfl, Lib.hid rfl, Lib.hid (Only.refl _ _)⟩
    case round =>
      obtain ⟨k, o0, x0, hk, rfl, rfl, rfl, HO0, HX0, HL, HO⟩ := hrel
      by_cases hkl : k < acts.length
      · have hkz : (k : Int) < (acts.length : Int) := by omega
        obtain ⟨a', c', hv', _, _, hcell⟩ := H.out.below (Below.of_only HO.out hb)
        obtain ⟨g, off, ha, hgb, hg, hcc⟩ := hcell (by omega)
        injection hv' with e1 e2 e3
        subst e1
        subst e3
        subst ha
        clear e2
        obtain ⟨v, cv, hA⟩ := hcc k hkl
        obtain ⟨x, hx⟩ : ∃ x, acts[k] = x := ⟨_, rfl⟩
        have HO3 := Lib.hid (show oddsIn (acts.take (k + 1)) = (o0 || x.any oddA) by rw [HO0.out]; unfold oddsIn; rw [any_succ _ _ hkl, hx])
        have HW3 := Lib.hid (show wrongsIn (acts.take (k + 1)) = (x0 || x.any (wrongA x.length)) by rw [HX0.out]; unfold wrongsIn; rw [any_succ _ _ hkl, hx])
        have HL3 := Lib.hid (show (acts.take (k + 1)).any (fun l => decide (256 < l.length)) = decide (256 < x.length) by rw [any_succ _ _ hkl, hx, HL.out, Bool.false_or])
        have HXA := Lib.hid (show x ∈ acts from hx ▸ List.getElem_mem hkl)
        rw [hx] at hA
        obtain ⟨va, vc, hva, hvl, hvm, _⟩ := id hA
        have HA := Lib.hid hA
        clear hcell hcc hA hx
        subst hva
        by_cases h256 : 256 < x.length
        · have h256z : (256 : Int) < (x.length : Int) := by omega
          have HM := Lib.hid (show mayM acts = 9 by
            unfold mayM
            rw [if_pos (.inr (List.any_eq_true.2 ⟨x, HXA.out, by simpa using h256⟩))])
          go_wp2
          refine bodyPost_ret (results_tmp rfl _ _ _) rfl ⟨?_, HO.out⟩
          rw [HM.out]; rfl
        · have h256z : (x.length : Int) ≤ 256 := by omega
          clear HO0 HX0
          go_wp2
          go_loopw [3, 4, 23] (fun u3 u4 z wq => ∃ (j : Nat) (ov xv : Bool), j ≤ x.length ∧ z = .int .i64 j ∧ u3 = .bool ov ∧ u4 = .bool xv ∧ Hid (ov = (o0 || (x.take j).any oddA)) ∧ Hid (xv = (x0 || (x.take j).any (wrongA x.length))) ∧ Hid (Only [] wr wq)) (fun _ _ z _ => x.length - (intOf z).toNat)
          case atStart => exact ⟨0, o0, x0, Nat.zero_le _, rfl, rfl, rfl, Lib.hid (by simp), Lib.hid (by simp), Lib.hid (Only.refl _ _)⟩
          case round =>
            obtain ⟨j, ov, xv, hj, rfl, rfl, rfl, HOV, HXV, HO1⟩ := hrel
            by_cases hjl : j < x.length
            · have hjz : (j : Int) < (x.length : Int) := by omega
              obtain ⟨va', vc', hv', _, _, hcell⟩ := HA.out.below (Below.of_only HO1.out (Nat.le_trans hb HO.out.size))
              obtain ⟨gx, ox, ha, _, hgx, hcc⟩ := hcell (by omega)
              injection hv' with e1 e2 e3
              subst e1
              subst e3
              subst ha
              clear e2
              obtain ⟨y, hy⟩ : ∃ y, x[j] = y := ⟨_, rfl⟩
              obtain ⟨c0, c1, c2, c3⟩ := hcc j hjl
              rw [hy] at c0 c1 c2 c3
              have HNO := Lib.hid (show (o0 || (x.take (j + 1)).any oddA) = (ov || oddA y) by rw [any_succ _ _ hjl, hy, HOV.out, Bool.or_assoc])
              have HNX := Lib.hid (show (x0 || (x.take (j + 1)).any (wrongA x.length)) = (xv || wrongA x.length y) by rw [any_succ _ _ hjl, hy, HXV.out, Bool.or_assoc])
              have HR := Lib.hid (right_ok (w := wr.alloc (.cells #[iv y.kind, iv y.a, iv y.b, iv y.n] 47)) (a := y.a) (b := y.b) (n := y.n) (len := x.length) y.kind)
              have hk3 : y.kind < 1 ∨ (1 ≤ y.kind ∧ y.kind ≤ 13) ∨ 13 < y.kind := by omega
              clear hcell hcc hy HOV HXV
              cases xv with
              | true =>
                have HNX := Lib.hid (show (x0 || (x.take (j + 1)).any (wrongA x.length)) = (true || true) by rw [HNX.out]; rfl)
                have HOA := HO1
                clear HR
                rcases hk3 with hk | ⟨hk, hk4⟩ | hk
                · have hod : oddA y = true := by unfold oddA; simp [hk]
                  rw [hod] at HNO
                  cases ov
                  ·
                    go_wp2
                    go_roundw
                    case measure => simp [intOf]; omega
                    case rel => exact ⟨j + 1, true, true, by omega, by go_num, rfl, rfl, Lib.hid (by rw [HNO.out]; rfl), Lib.hid (by rw [HNX.out]; rfl), Lib.hid (by (repeat (first | with_reducible exact Only.refl _ _ | with_reducible exact HOA.out | with_reducible refine Only.drew ?_ | with_reducible refine Only.drewN ?_ _ | with_reducible refine Only.alloc ?_ _ | ((with_reducible refine Only.setCell ?_ ?_ _); rotate_left; (focus (first | (left; simp; done) | (right; simp; done) | (right; simp; omega) | (right; omega)))))))⟩
                  ·
                    go_wp2
                    go_roundw
                    case measure => simp [intOf]; omega
                    case rel => exact ⟨j + 1, true, true, by omega, by go_num, rfl, rfl, Lib.hid (by rw [HNO.out]; rfl), Lib.hid (by rw [HNX.out]; rfl), Lib.hid (by (repeat (first | with_reducible exact Only.refl _ _ | with_reducible exact HOA.out | with_reducible refine Only.drew ?_ | with_reducible refine Only.drewN ?_ _ | with_reducible refine Only.alloc ?_ _ | ((with_reducible refine Only.setCell ?_ ?_ _); rotate_left; (focus (first | (left; simp; done) | (right; simp; done) | (right; simp; omega) | (right; omega)))))))⟩
                · have hod : oddA y = false := by unfold oddA; simp; omega
                  have hd1 : decide (y.kind < 1) = false := decide_eq_false (by omega)
                  have hd2 : decide (13 < y.kind) = false := decide_eq_false (by omega)
                  rw [hod] at HNO
                  cases ov
                  ·
                    go_wp2
                    go_roundw
                    case measure => simp [intOf]; omega
                    case rel => exact ⟨j + 1, false, true, by omega, by go_num, rfl, rfl, Lib.hid (by rw [HNO.out]; rfl), Lib.hid (by rw [HNX.out]; rfl), Lib.hid (by (repeat (first | with_reducible exact Only.refl _ _ | with_reducible exact HOA.out | with_reducible refine Only.drew ?_ | with_reducible refine Only.drewN ?_ _ | with_reducible refine Only.alloc ?_ _ | ((with_reducible refine Only.setCell ?_ ?_ _); rotate_left; (focus (first | (left; simp; done) | (right; simp; done) | (right; simp; omega) | (right; omega)))))))⟩
                  ·
                    go_wp2
                    go_roundw
                    case measure => simp [intOf]; omega
                    case rel => exact ⟨j + 1, true, true, by omega, by go_num, rfl, rfl, Lib.hid (by rw [HNO.out]; rfl), Lib.hid (by rw [HNX.out]; rfl), Lib.hid (by (repeat (first | with_reducible exact Only.refl _ _ | with_reducible exact HOA.out | with_reducible refine Only.drew ?_ | with_reducible refine Only.drewN ?_ _ | with_reducible refine Only.alloc ?_ _ | ((with_reducible refine Only.setCell ?_ ?_ _); rotate_left; (focus (first | (left; simp; done) | (right; simp; done) | (right; simp; omega) | (right; omega)))))))⟩
                · have hod : oddA y = true := by unfold oddA; simp [hk]
                  have hk5 : 1 ≤ y.kind := by omega
                  rw [hod] at HNO
                  cases ov
                  ·
                    go_wp2
                    go_roundw
                    case measure => simp [intOf]; omega
                    case rel => exact ⟨j + 1, true, true, by omega, by go_num, rfl, rfl, Lib.hid (by rw [HNO.out]; rfl), Lib.hid (by rw [HNX.out]; rfl), Lib.hid (by (repeat (first | with_reducible exact Only.refl _ _ | with_reducible exact HOA.out | with_reducible refine Only.drew ?_ | with_reducible refine Only.drewN ?_ _ | with_reducible refine Only.alloc ?_ _ | ((with_reducible refine Only.setCell ?_ ?_ _); rotate_left; (focus (first | (left; simp; done) | (right; simp; done) | (right; simp; omega) | (right; omega)))))))⟩
                  ·
                    go_wp2
                    go_roundw
                    case measure => simp [intOf]; omega
                    case rel => exact ⟨j + 1, true, true, by omega, by go_num, rfl, rfl, Lib.hid (by rw [HNO.out]; rfl), Lib.hid (by rw [HNX.out]; rfl), Lib.hid (by (repeat (first | with_reducible exact Only.refl _ _ | with_reducible exact HOA.out | with_reducible refine Only.drew ?_ | with_reducible refine Only.drewN ?_ _ | with_reducible refine Only.alloc ?_ _ | ((with_reducible refine Only.setCell ?_ ?_ _); rotate_left; (focus (first | (left; simp; done) | (right; simp; done) | (right; simp; omega) | (right; omega)))))))⟩
              | false =>
                cases hrb : rightB y.kind y.a y.b y.n x.length with
                | true =>
                  have hwr : wrongA x.length y = false := by unfold wrongA; rw [hrb]; rfl
                  rw [hrb] at HR
                  rw [hwr] at HNX
                  clear hrb hwr
                  rcases hk3 with hk | ⟨hk, hk4⟩ | hk
                  · have hod : oddA y = true := by unfold oddA; simp [hk]
                    rw [hod] at HNO
                    cases ov
                    ·
                      go_wp2_with fail
                      refine HR.out.mono ?_
                      clear HR
                      rintro e w5 ⟨rfl, hO5⟩
                      have HOA := Lib.hid ((HO1.out.alloc (.cells #[iv y.kind, iv y.a, iv y.b, iv y.n] 47)).trans hO5)
                      clear hO5
                      go_wp2
                      go_roundw
                      case measure => simp [intOf]; omega
                      case rel => exact ⟨j + 1, true, false, by omega, by go_num, rfl, rfl, Lib.hid (by rw [HNO.out]; rfl), Lib.hid (by rw [HNX.out]; rfl), Lib.hid (by (repeat (first | with_reducible exact Only.refl _ _ | with_reducible exact HOA.out | with_reducible refine Only.drew ?_ | with_reducible refine Only.drewN ?_ _ | with_reducible refine Only.alloc ?_ _ | ((with_reducible refine Only.setCell ?_ ?_ _); rotate_left; (focus (first | (left; simp; done) | (right; simp; done) | (right; simp; omega) | (right; omega)))))))⟩
                    ·
                      go_wp2_with fail
                      refine HR.out.mono ?_
                      clear HR
                      rintro e w5 ⟨rfl, hO5⟩
                      have HOA := Lib.hid ((HO1.out.alloc (.cells #[iv y.kind, iv y.a, iv y.b, iv y.n] 47)).trans hO5)
                      clear hO5
                      go_wp2
                      go_roundw
                      case measure => simp [intOf]; omega
                      case rel => exact ⟨j + 1, true, false, by omega, by go_num, rfl, rfl, Lib.hid (by rw [HNO.out]; rfl), Lib.hid (by rw [HNX.out]; rfl), Lib.hid (by (repeat (first | with_reducible exact Only.refl _ _ | with_reducible exact HOA.out | with_reducible refine Only.drew ?_ | with_reducible refine Only.drewN ?_ _ | with_reducible refine Only.alloc ?_ _ | ((with_reducible refine Only.setCell ?_ ?_ _); rotate_left; (focus (first | (left; simp; done) | (right; simp; done) | (right; simp; omega) | (right; omega)))))))⟩
                  · have hod : oddA y = false := by unfold oddA; simp; omega
                    have hd1 : decide (y.kind < 1) = false := decide_eq_false (by omega)
                    have hd2 : decide (13 < y.kind) = false := decide_eq_false (by omega)
                    rw [hod] at HNO
                    cases ov
                    ·
                      go_wp2_with fail
                      refine HR.out.mono ?_
                      clear HR
                      rintro e w5 ⟨rfl, hO5⟩
                      have HOA := Lib.hid ((HO1.out.alloc (.cells #[iv y.kind, iv y.a, iv y.b, iv y.n] 47)).trans hO5)
                      clear hO5
                      go_wp2
                      go_roundw
                      case measure => simp [intOf]; omega
                      case rel => exact ⟨j + 1, false, false, by omega, by go_num, rfl, rfl, Lib.hid (by rw [HNO.out]; rfl), Lib.hid (by rw [HNX.out]; rfl), Lib.hid (by (repeat (first | with_reducible exact Only.refl _ _ | with_reducible exact HOA.out | with_reducible refine Only.drew ?_ | with_reducible refine Only.drewN ?_ _ | with_reducible refine Only.alloc ?_ _ | ((with_reducible refine Only.setCell ?_ ?_ _); rotate_left; (focus (first | (left; simp; done) | (right; simp; done) | (right; simp; omega) | (right; omega)))))))⟩
                    ·
                      go_wp2_with fail
                      refine HR.out.mono ?_
                      clear HR
                      rintro e w5 ⟨rfl, hO5⟩
                      have HOA := Lib.hid ((HO1.out.alloc (.cells #[iv y.kind, iv y.a, iv y.b, iv y.n] 47)).trans hO5)
                      clear hO5
                      go_wp2
                      go_roundw
                      case measure => simp [intOf]; omega
                      case rel => exact ⟨j + 1, true, false, by omega, by go_num, rfl, rfl, Lib.hid (by rw [HNO.out]; rfl), Lib.hid (by rw [HNX.out]; rfl), Lib.hid (by (repeat (first | with_reducible exact Only.refl _ _ | with_reducible exact HOA.out | with_reducible refine Only.drew ?_ | with_reducible refine Only.drewN ?_ _ | with_reducible refine Only.alloc ?_ _ | ((with_reducible refine Only.setCell ?_ ?_ _); rotate_left; (focus (first | (left; simp; done) | (right; simp; done) | (right; simp; omega) | (right; omega)))))))⟩
                  · have hod : oddA y = true := by unfold oddA; simp [hk]
                    have hk5 : 1 ≤ y.kind := by omega
                    rw [hod] at HNO
                    cases ov
                    ·
                      go_wp2_with fail
                      refine HR.out.mono ?_
                      clear HR
                      rintro e w5 ⟨rfl, hO5⟩
                      have HOA := Lib.hid ((HO1.out.alloc (.cells #[iv y.kind, iv y.a, iv y.b, iv y.n] 47)).trans hO5)
                      clear hO5
                      go_wp2
                      go_roundw
                      case measure => simp [intOf]; omega
                      case rel => exact ⟨j + 1, true, false, by omega, by go_num, rfl, rfl, Lib.hid (by rw [HNO.out]; rfl), Lib.hid (by rw [HNX.out]; rfl), Lib.hid (by (repeat (first | with_reducible exact Only.refl _ _ | with_reducible exact HOA.out | with_reducible refine Only.drew ?_ | with_reducible refine Only.drewN ?_ _ | with_reducible refine Only.alloc ?_ _ | ((with_reducible refine Only.setCell ?_ ?_ _); rotate_left; (focus (first | (left; simp; done) | (right; simp; done) | (right; simp; omega) | (right; omega)))))))⟩
                    ·
                      go_wp2_with fail
                      refine HR.out.mono ?_
                      clear HR
                      rintro e w5 ⟨rfl, hO5⟩
                      have HOA := Lib.hid ((HO1.out.alloc (.cells #[iv y.kind, iv y.a, iv y.b, iv y.n] 47)).trans hO5)
                      clear hO5
                      go_wp2
                      go_roundw
                      case measure => simp [intOf]; omega
                      case rel => exact ⟨j + 1, true, false, by omega, by go_num, rfl, rfl, Lib.hid (by rw [HNO.out]; rfl), Lib.hid (by rw [HNX.out]; rfl), Lib.hid (by (repeat (first | with_reducible exact Only.refl _ _ | with_reducible exact HOA.out | with_reducible refine Only.drew ?_ | with_reducible refine Only.drewN ?_ _ | with_reducible refine Only.alloc ?_ _ | ((with_reducible refine Only.setCell ?_ ?_ _); rotate_left; (focus (first | (left; simp; done) | (right; simp; done) | (right; simp; omega) | (right; omega)))))))⟩
                | false =>
                  have hwr : wrongA x.length y = true := by unfold wrongA; rw [hrb]; rfl
                  rw [hrb] at HR
                  rw [hwr] at HNX
                  clear hrb hwr
                  rcases hk3 with hk | ⟨hk, hk4⟩ | hk
                  · have hod : oddA y = true := by unfold oddA; simp [hk]
                    rw [hod] at HNO
                    cases ov
                    ·
                      go_wp2_with fail
                      refine HR.out.mono ?_
                      clear HR
                      rintro e w5 ⟨rfl, hO5⟩
                      have HOA := Lib.hid ((HO1.out.alloc (.cells #[iv y.kind, iv y.a, iv y.b, iv y.n] 47)).trans hO5)
                      clear hO5
                      go_wp2
                      go_roundw
                      case measure => simp [intOf]; omega
                      case rel => exact ⟨j + 1, true, true, by omega, by go_num, rfl, rfl, Lib.hid (by rw [HNO.out]; rfl), Lib.hid (by rw [HNX.out]; rfl), Lib.hid (by (repeat (first | with_reducible exact Only.refl _ _ | with_reducible exact HOA.out | with_reducible refine Only.drew ?_ | with_reducible refine Only.drewN ?_ _ | with_reducible refine Only.alloc ?_ _ | ((with_reducible refine Only.setCell ?_ ?_ _); rotate_left; (focus (first | (left; simp; done) | (right; simp; done) | (right; simp; omega) | (right; omega)))))))⟩
                    ·
                      go_wp2_with fail
                      refine HR.out.mono ?_
                      clear HR
                      rintro e w5 ⟨rfl, hO5⟩
                      have HOA := Lib.hid ((HO1.out.alloc (.cells #[iv y.kind, iv y.a, iv y.b, iv y.n] 47)).trans hO5)
                      clear hO5
                      go_wp2
                      go_roundw
                      case measure => simp [intOf]; omega
                      case rel => exact ⟨j + 1, true, true, by omega, by go_num, rfl, rfl, Lib.hid (by rw [HNO.out]; rfl), Lib.hid (by rw [HNX.out]; rfl), Lib.hid (by (repeat (first | with_reducible exact Only.refl _ _ | with_reducible exact HOA.out | with_reducible refine Only.drew ?_ | with_reducible refine Only.drewN ?_ _ | with_reducible refine Only.alloc ?_ _ | ((with_reducible refine Only.setCell ?_ ?_ _); rotate_left; (focus (first | (left; simp; done) | (right; simp; done) | (right; simp; omega) | (right; omega)))))))⟩
                  · have hod : oddA y = false := by unfold oddA; simp; omega
                    have hd1 : decide (y.kind < 1) = false := decide_eq_false (by omega)
                    have hd2 : decide (13 < y.kind) = false := decide_eq_false (by omega)
                    rw [hod] at HNO
                    cases ov
                    ·
                      go_wp2_with fail
                      refine HR.out.mono ?_
                      clear HR
                      rintro e w5 ⟨rfl, hO5⟩
                      have HOA := Lib.hid ((HO1.out.alloc (.cells #[iv y.kind, iv y.a, iv y.b, iv y.n] 47)).trans hO5)
                      clear hO5
                      go_wp2
                      go_roundw
                      case measure => simp [intOf]; omega
                      case rel => exact ⟨j + 1, false, true, by omega, by go_num, rfl, rfl, Lib.hid (by rw [HNO.out]; rfl), Lib.hid (by rw [HNX.out]; rfl), Lib.hid (by (repeat (first | with_reducible exact Only.refl _ _ | with_reducible exact HOA.out | with_reducible refine Only.drew ?_ | with_reducible refine Only.drewN ?_ _ | with_reducible refine Only.alloc ?_ _ | ((with_reducible refine Only.setCell ?_ ?_ _); rotate_left; (focus (first | (left; simp; done) | (right; simp; done) | (right; simp; omega) | (right; omega)))))))⟩
                    ·
                      go_wp2_with fail
                      refine HR.out.mono ?_
                      clear HR
                      rintro e w5 ⟨rfl, hO5⟩
                      have HOA := Lib.hid ((HO1.out.alloc (.cells #[iv y.kind, iv y.a, iv y.b, iv y.n] 47)).trans hO5)
                      clear hO5
                      go_wp2
                      go_roundw
                      case measure => simp [intOf]; omega
                      case rel => exact ⟨j + 1, true, true, by omega, by go_num, rfl, rfl, Lib.hid (by rw [HNO.out]; rfl), Lib.hid (by rw [HNX.out]; rfl), Lib.hid (by (repeat (first | with_reducible exact Only.refl _ _ | with_reducible exact HOA.out | with_reducible refine Only.drew ?_ | with_reducible refine Only.drewN ?_ _ | with_reducible refine Only.alloc ?_ _ | ((with_reducible refine Only.setCell ?_ ?_ _); rotate_left; (focus (first | (left; simp; done) | (right; simp; done) | (right; simp; omega) | (right; omega)))))))⟩
                  · have hod : oddA y = true := by unfold oddA; simp [hk]
                    have hk5 : 1 ≤ y.kind := by omega
                    rw [hod] at HNO
                    cases ov
                    ·
                      go_wp2_with fail
                      refine HR.out.mono ?_
                      clear HR
                      rintro e w5 ⟨rfl, hO5⟩
                      have HOA := Lib.hid ((HO1.out.alloc (.cells #[iv y.kind, iv y.a, iv y.b, iv y.n] 47)).trans hO5)
                      clear hO5
                      go_wp2
                      go_roundw
                      case measure => simp [intOf]; omega
                      case rel => exact ⟨j + 1, true, true, by omega, by go_num, rfl, rfl, Lib.hid (by rw [HNO.out]; rfl), Lib.hid (by rw [HNX.out]; rfl), Lib.hid (by (repeat (first | with_reducible exact Only.refl _ _ | with_reducible exact HOA.out | with_reducible refine Only.drew ?_ | with_reducible refine Only.drewN ?_ _ | with_reducible refine Only.alloc ?_ _ | ((with_reducible refine Only.setCell ?_ ?_ _); rotate_left; (focus (first | (left; simp; done) | (right; simp; done) | (right; simp; omega) | (right; omega)))))))⟩
                    ·
                      go_wp2_with fail
                      refine HR.out.mono ?_
                      clear HR
                      rintro e w5 ⟨rfl, hO5⟩
                      have HOA := Lib.hid ((HO1.out.alloc (.cells #[iv y.kind, iv y.a, iv y.b, iv y.n] 47)).trans hO5)
                      clear hO5
                      go_wp2
                      go_roundw
                      case measure => simp [intOf]; omega
                      case rel => exact ⟨j + 1, true, true, by omega, by go_num, rfl, rfl, Lib.hid (by rw [HNO.out]; rfl), Lib.hid (by rw [HNX.out]; rfl), Lib.hid (by (repeat (first | with_reducible exact Only.refl _ _ | with_reducible exact HOA.out | with_reducible refine Only.drew ?_ | with_reducible refine Only.drewN ?_ _ | with_reducible refine Only.alloc ?_ _ | ((with_reducible refine Only.setCell ?_ ?_ _); rotate_left; (focus (first | (left; simp; done) | (right; simp; done) | (right; simp; omega) | (right; omega)))))))⟩
            · obtain rfl : j = x.length := by omega
              have HF0 := Lib.hid (show ov = oddsIn (acts.take (k + 1)) by rw [HO3.out, HOV.out, List.take_length])
              have HF1 := Lib.hid (show xv = wrongsIn (acts.take (k + 1)) by rw [HW3.out, HXV.out, List.take_length])
              have HF2 := Lib.hid (show (acts.take (k + 1)).any (fun l => decide (256 < l.length)) = false by rw [HL3.out]; exact decide_eq_false h256)
              have HF3 := Lib.hid (HO.out.trans HO1.out)
              go_wp2
              go_roundw
              case measure => simp [intOf]; omega
              case rel => exact ⟨k + 1, ov, xv, by omega, by go_num, rfl, rfl, HF0, HF1, HF2, HF3⟩
      · obtain rfl : k = acts.length := by omega
        have HM := Lib.hid (show mayM acts = if o0 = true then 62 else if x0 = true then 1 else 0 by
          have h1 := HL.out
          rw [List.take_length] at h1
          unfold mayM
          rw [if_neg (by rw [h1]; simp; omega), HO0.out, HX0.out, List.take_length])
        clear HO0 HX0 HL
        cases o0
        · cases x0
          · go_wp2
            refine bodyPost_ret (results_tmp rfl _ _ _) rfl ⟨?_, HO.out⟩
            rw [HM.out]; rfl
          · go_wp2
            refine bodyPost_ret (results_tmp rfl _ _ _) rfl ⟨?_, HO.out⟩
            rw [HM.out]; rfl
        · go_wp2
          refine bodyPost_ret (results_tmp rfl _ _ _) rfl ⟨?_, HO.out⟩
          rw [HM.out]; rfl
end Go.Proofs.Ytompelilflckkaa
/-
  The scheduler: may a run be asked for?
-/
namespace Go.Proofs.Ytompelilflckkaa
open Go.RowKit Go.Fl

abbrev intv (x : Int) : Value := iv x
/-- May a run be asked for? -/
def askedM (acts : List (List A)) (room : Int) (ps : List Int) (most : Int) : Int :=
  if mayM acts ≠ 0 then mayM acts else if room < 1 ∨ 16 < room ∨ most < 0 ∨ 65536 < most ∨ 65536 < ps.length then 1 else if ps.any (fun k => decide (k < 0)) = true then 1 else 0

set_option maxRecDepth 100000 in
set_option maxHeartbeats 3200000 in
theorem asked_ok {base : Nat} {w : World} {tv pv : Value} {acts : List (List A)} {ps : List Int} (room most : Int) (h : TasksV base w tv acts) (hb : base ≤ w.heap.size) (hp : Row intv w pv ps) :
    Calls Try.prog 28 #[tv, iv room, pv, iv most] w fun e w' => e = .returned (iv (askedM acts room ps most)) ∧ Only [] w w' := by
  have HY := Lib.hid (may_ok h hb)
  have HP := Lib.hid hp
  obtain ⟨pa, pc, hpv, hpc, hpm, _⟩ := hp
  subst hpv
  have hs0 : ps.length ≤ 9223372036854775807 := by unfold maxLen at hpm; omega
  by_cases he : mayM acts = 0
  · rw [he] at HY
    by_cases h1 : room < 1
    ·
      have HM := Lib.hid (show askedM acts room ps most = 1 by unfold askedM; rw [if_neg (by simp [he]), if_pos (by omega)])
      go_enter Try.func28, Try.ntmps28
      go_wp2_with fail
      refine HY.out.mono ?_
      clear HY
      rintro e w1 ⟨rfl, hO⟩
      have HO := Lib.hid hO
      clear hO
      go_wp2
      refine bodyPost_ret (results_tmp rfl _ _ _) rfl ⟨?_, HO.out⟩
      rw [HM.out]; rfl
    have g1 : 1 ≤ room := by omega
    by_cases h2 : 16 < room
    ·
      have HM := Lib.hid (show askedM acts room ps most = 1 by unfold askedM; rw [if_neg (by simp [he]), if_pos (by omega)])
      go_enter Try.func28, Try.ntmps28
      go_wp2_with fail
      refine HY.out.mono ?_
      clear HY
      rintro e w1 ⟨rfl, hO⟩
      have HO := Lib.hid hO
      clear hO
      go_wp2
      refine bodyPost_ret (results_tmp rfl _ _ _) rfl ⟨?_, HO.out⟩
      rw [HM.out]; rfl
    have g2 : room ≤ 16 := by omega
    by_cases h3 : most < 0
    ·
      have HM := Lib.hid (show askedM acts room ps most = 1 by unfold askedM; rw [if_neg (by simp [he]), if_pos (by omega)])
      go_enter Try.func28, Try.ntmps28
      go_wp2_with fail
      refine HY.out.mono ?_
      clear HY
      rintro e w1 ⟨rfl, hO⟩
      have HO := Lib.hid hO
      clear hO
      go_wp2
      refine bodyPost_ret (results_tmp rfl _ _ _) rfl ⟨?_, HO.out⟩
      rw [HM.out]; rfl
    have g3 : 0 ≤ most := by omega
    by_cases h4 : 65536 < most
    ·
      have HM := Lib.hid (show askedM acts room ps most = 1 by unfold askedM; rw [if_neg (by simp [he]), if_pos (by omega)])
      go_enter Try.func28, Try.ntmps28
      go_wp2_with fail
      refine HY.out.mono ?_
      clear HY
      rintro e w1 ⟨rfl, hO⟩
      have HO := Lib.hid hO
      clear hO
      go_wp2
      refine bodyPost_ret (results_tmp rfl _ _ _) rfl ⟨?_, HO.out⟩
      rw [HM.out]; rfl
    have g4 : most ≤ 65536 := by omega
    by_cases h5 : 65536 < ps.length
    · have g5 : (65536 : Int) < (ps.length : Int) := by omega
      have HM := Lib.hid (show askedM acts room ps most = 1 by unfold askedM; rw [if_neg (by simp [he]), if_pos (by omega)])
      go_enter Try.func28, Try.ntmps28
      go_wp2_with fail
      refine HY.out.mono ?_
      clear HY
      rintro e w1 ⟨rfl, hO⟩
      have HO := Lib.hid hO
      clear hO
      go_wp2
      refine bodyPost_ret (results_tmp rfl _ _ _) rfl ⟨?_, HO.out⟩
      rw [HM.out]; rfl
    have g5 : (ps.length : Int) ≤ 65536 := by omega
    have HM := Lib.hid (show askedM acts room ps most = if ps.any (fun k => decide (k < 0)) = true then 1 else 0 by unfold askedM; rw [if_neg (by simp [he]), if_neg (by omega)])
    clear h1 h2 h3 h4
    go_enter Try.func28, Try.ntmps28
    go_wp2_with fail
    refine HY.out.mono ?_
    clear HY
    rintro e w1 ⟨rfl, hO⟩
    have HO := Lib.hid hO
    clear hO
    go_wp2
    go_loopw [38] (fun z wr => ∃ k : Nat, k ≤ ps.length ∧ z = .int .i64 k ∧ Hid ((ps.take k).any (fun k => decide (k < 0)) = false) ∧ Hid (Only [] w wr)) (fun z _ => ps.length - (intOf z).toNat)
    case atStart => exact ⟨0, Nat.zero_le _, rfl, Lib.hid rfl, HO⟩
    case round =>
      clear HO
      obtain ⟨k, hk, rfl, HL, HO⟩ := hrel
      by_cases hkl : k < ps.length
      · have hkz : (k : Int) < (ps.length : Int) := by omega
        obtain ⟨a', c', hv', _, _, hcell⟩ := HP.out.only HO.out
        obtain ⟨g, off, ha, hg, hcc⟩ := hcell (by omega)
        injection hv' with e1 e2 e3
        subst e1
        subst e3
        subst ha
        clear e2
        obtain ⟨x, hx⟩ : ∃ x, ps[k] = x := ⟨_, rfl⟩
        have cx : wr.cell? ⟨g, off + k, none⟩ = some (iv x) := hx ▸ hcc k hkl
        by_cases hx0 : x < 0
        · have HF := Lib.hid (show askedM acts room ps most = 1 by
            rw [HM.out, if_pos (List.any_eq_true.2 ⟨x, hx ▸ List.getElem_mem hkl, by simpa using hx0⟩)])
          clear hcell hcc hx
          go_wp2
          refine bodyPost_ret (results_tmp rfl _ _ _) rfl ⟨?_, HO.out⟩
          rw [HF.out]; rfl
        · have hx1 : 0 ≤ x := by omega
          have HF := Lib.hid (show (ps.take (k + 1)).any (fun k => decide (k < 0)) = false by rw [any_succ _ _ hkl, hx, HL.out]; simp; omega)
          clear hcell hcc hx
          go_wp2
          go_roundw
          case measure => simp [intOf]; omega
          case rel => exact ⟨k + 1, by omega, by go_num, HF, HO⟩
      · obtain rfl : k = ps.length := by omega
        have HF := Lib.hid (show askedM acts room ps most = 0 by
          have h1 := HL.out
          rw [List.take_length] at h1
          rw [HM.out, if_neg (by rw [h1]; simp)])
        go_wp2
        refine bodyPost_ret (results_tmp rfl _ _ _) rfl ⟨?_, HO.out⟩
        rw [HF.out]; rfl
  · have hz : (mayM acts == 0) = false := by simpa using he
    have HM := Lib.hid (show askedM acts room ps most = mayM acts by unfold askedM; rw [if_pos he])
    generalize mayM acts = m at *
    go_enter Try.func28, Try.ntmps28
    go_wp2_with fail
    refine HY.out.mono ?_
    clear HY
    rintro e w1 ⟨rfl, hO⟩
    have HO := Lib.hid hO
    clear hO
    go_wp2
    refine bodyPost_ret (results_tmp rfl _ _ _) rfl ⟨?_, HO.out⟩
    rw [HM.out]; rfl
end Go.Proofs.Ytompelilflckkaa
/-
  The scheduler's Run: what is refused; its middle.
-/
namespace Go.Proofs.Ytompelilflckkaa
open Go.RowKit Go.Fl

/-- append of cells that lie anywhere, as one step of a region. -/
theorem step_append_sl {P : Program} {w : World} {ops : Array Oper} {o : Oper} {a : Act} {K : Act → World → Prop} {Q : Exit → Act → World → Prop} {E : Prop} (hgd : o.guard = none) (s x : Operand) (t : TypeId)
    (ho : o.op = .call { callee := .builtin .append, args := #[s, x], argTypes := #[t, t] })
    (e : TypeId) (i : TypeInfo) (z : Value) (size bytes : Nat) (ht : P.underlying t = some (.slice e)) (hi : P.info? e = some i) (hz : i.zero = some z)
    (hsize : i.size = size) (hby : i.bytes = bytes) (hzs : z.cells.size = size) (hsz : 0 < size)
    {v : Value} {n : Nat} {xs : List Value} (hs : a.eval s = v) (hown : Sl w e size v n xs)
    (ad : Addr) (m c : Nat) (news : List Value) (hx : a.eval x = .slice (some ad) m c) (hl : news.length = m * size) (hnews : ∀ j u, news[j]? = some u → w.cell? (ad.add j) = some u) (h1 : ∀ u ∈ news, u.oneCell' = true)
    (h63 : n + m ≤ maxLen) (hbytes : (n + m) * bytes ≤ 140737488355328)
    (h : ∀ v' w', Sl w' e size v' (n + m) (xs ++ news) → w.grownBy w' v.ownBlock → (v'.ownBlock = v.ownBlock ∨ v'.ownBlock = some w.heap.size) → K (a.put o.dst v') w') :
    if Region.wanted o (yielded ops a.tmps) = true then Oper.wp P o a w K Q else E := by
  have hw : Region.wanted o (yielded ops a.tmps) = true := by simp [Region.wanted, hgd]
  rw [if_pos hw]
  obtain ⟨v', w', hr, h2, h3, h4⟩ := run_append_sl (P := P) t o.type e i z size bytes ht hi hz hsize hby hzs hsz hown ad m c news hl hnews h1 h63 hbytes
  unfold Oper.wp execOp
  simp only [ho, resolve, invoke, builtin, Sem.run_bind, Sem.run_pure, Result.andThen_ok, List.map_toArray, List.map_cons, List.map_nil, hs, hx, hr]
  exact h v' w' h2 h3 h4

set_option maxRecDepth 100000 in
set_option maxHeartbeats 3200000 in
theorem run_bad {w : World} {tv pv : Value} {acts : List (List A)} {ps : List Int} (room most : Int) (h : TasksV w.heap.size w tv acts) (hp : Row intv w pv ps) (hk : askedM acts room ps most ≠ 0) :
    Calls Try.prog 15 #[tv, iv room, pv, iv most] w fun e w' => e = .returned (.tuple #[.agg #[iv 0, .slice none 0 0, .slice none 0 0, .slice none 0 0, .slice none 0 0], iv (askedM acts room ps most)]) ∧ Only [] w w' := by
  have hO := (Only.refl [] w).alloc (.cells #[iv 0, .slice none 0 0, .slice none 0 0, .slice none 0 0, .slice none 0 0] 33)
  have HA := Lib.hid (asked_ok (base := w.heap.size) room most (h.below (Below.of_only hO (Nat.le_refl _))) (by simp) (hp.only hO))
  have hz : (askedM acts room ps most == 0) = false := by simpa using hk
  have hbk : Blk (w.alloc (.cells #[iv 0, .slice none 0 0, .slice none 0 0, .slice none 0 0, .slice none 0 0] 33)) w.heap.size 33 #[iv 0, .slice none 0 0, .slice none 0 0, .slice none 0 0, .slice none 0 0] := Blk.new _ _ _
  generalize askedM acts room ps most = m at *
  go_enter Try.func15, Try.ntmps15
  go_wp2_with fail
  refine HA.out.mono ?_
  clear HA
  rintro e w1 ⟨rfl, hO1⟩
  have HB := Lib.hid (hbk.only hO1 (by simp))
  have HO := Lib.hid (hO.trans hO1)
  obtain ⟨hcb, hfb, hlb⟩ := HB.out.facts
  clear hbk hO hO1
  go_wp2
  refine bodyPost_ret (v := .tuple #[.agg #[iv 0, .slice none 0 0, .slice none 0 0, .slice none 0 0, .slice none 0 0], iv m]) (results2 rfl (res_blk Try.underlying33 (by kernel_rfl) rfl (cs := [iv 0, .slice none 0 0, .slice none 0 0, .slice none 0 0, .slice none 0 0]) ?_) (res_tmp rfl)) rfl ⟨rfl, ?_⟩
  · (repeat' (first | with_reducible exact HB.out | with_reducible apply Blk.drew | with_reducible apply Blk.drewN | with_reducible apply Blk.alloc | ((with_reducible apply Blk.far); rotate_left; (focus (simp <;> omega))) | with_reducible apply Blk.set' | with_reducible exact SetEq.rfl' | (simp [SetEq]; done) | (simp [SetEq]; omega)))
  · (repeat (first | with_reducible exact Only.refl _ _ | with_reducible exact HO.out | with_reducible refine Only.drew ?_ | with_reducible refine Only.drewN ?_ _ | with_reducible refine Only.alloc ?_ _ | ((with_reducible refine Only.setCell ?_ ?_ _); rotate_left; (focus (first | (left; simp; done) | (right; simp; done) | (right; simp; omega) | (right; omega))))))
end Go.Proofs.Ytompelilflckkaa
/-
  The scheduler's Run: a run that may be.
-/
namespace Go.Proofs.Ytompelilflckkaa
open Go.RowKit Go.Fl

theorem asked_zero {acts : List (List A)} {room most : Int} {ps : List Int} (h : askedM acts room ps most = 0) : acts.length ≤ 16 ∧ 1 ≤ room ∧ room ≤ 16 ∧ 0 ≤ most ∧ most ≤ 65536 ∧ ps.length ≤ 65536 ∧ (∀ k ∈ ps, 0 ≤ k) ∧ (∀ l ∈ acts, l.length ≤ 256) ∧ oddsIn acts = false ∧ wrongsIn acts = false := by
  unfold askedM at h
  by_cases h1 : mayM acts = 0
  · rw [if_neg (by simp [h1])] at h
    by_cases h2 : room < 1 ∨ 16 < room ∨ most < 0 ∨ 65536 < most ∨ 65536 < ps.length
    · rw [if_pos h2] at h; cases h
    · rw [if_neg h2] at h
      by_cases h3 : ps.any (fun k => decide (k < 0)) = true
      · rw [if_pos h3] at h; cases h
      · unfold mayM at h1
        by_cases h4 : 16 < acts.length ∨ acts.any (fun l => decide (256 < l.length)) = true
        · rw [if_pos h4] at h1; cases h1
        · rw [if_neg h4] at h1
          by_cases h5 : oddsIn acts = true
          · rw [if_pos h5] at h1; cases h1
          · rw [if_neg h5] at h1
            by_cases h6 : wrongsIn acts = true
            · rw [if_pos h6] at h1; cases h1
            · refine ⟨by omega, by omega, by omega, by omega, by omega, by omega, fun k hk => ?_, fun l hl => ?_, by simpa using h5, by simpa using h6⟩
              · have h7 : ¬ k < 0 := fun h8 => h3 (List.any_eq_true.2 ⟨k, hk, by simpa using h8⟩)
                omega
              · have h7 : ¬ 256 < l.length := fun h8 => h4 (.inr (List.any_eq_true.2 ⟨l, hl, by simpa using h8⟩))
                omega
  · rw [if_pos h1] at h; exact absurd h h1
theorem rightB_ok {a : A} {len : Nat} (h1 : oddA a = false) (h2 : wrongA len a = false) : okA len a := by
  have h3 : rightB a.kind a.a a.b a.n len = true := by unfold wrongA at h2; simpa using h2
  have h4 : 1 ≤ a.kind ∧ a.kind ≤ 13 := by unfold oddA at h1; simp at h1; omega
  clear h1 h2
  unfold rightB btw at h3
  unfold okA
  obtain ⟨K, x, y, n⟩ := a
  dsimp only at h3 h4 ⊢
  have hk : K = 1 ∨ K = 2 ∨ K = 3 ∨ K = 4 ∨ K = 5 ∨ K = 6 ∨ K = 7 ∨ K = 8 ∨ K = 9 ∨ K = 10 ∨ K = 11 ∨ K = 12 ∨ K = 13 := by omega
  rcases hk with rfl | rfl | rfl | rfl | rfl | rfl | rfl | rfl | rfl | rfl | rfl | rfl | rfl <;> simp at h3 <;> omega
/-- A run that may be asked for begins well. -/
theorem begin_wf {acts : List (List A)} {room : Int} (h1 : acts.length ≤ 16) (h2 : 1 ≤ room) (h3 : room ≤ 16) (h4 : ∀ l ∈ acts, l.length ≤ 256) (h5 : oddsIn acts = false) (h6 : wrongsIn acts = false) : WF (begin_ acts room) 0 := by
  have hm : ∀ i, i < acts.length → acts.getD i [] ∈ acts := fun i hi => by rw [List.getD_eq_getElem?_getD, List.getElem?_eq_getElem hi]; exact List.getElem_mem hi
  refine ⟨h1, ⟨h2, h3⟩, fun i hi => h4 _ (hm i hi), fun i hi a ha => ?_, fun i hi => Nat.zero_le _, fun i hi => ⟨by show (-1 : Int) ≤ -1; omega, by show (-1 : Int) ≤ _; omega⟩, fun i hi => .inl rfl, fun c => ⟨fun i hi => (by cases hi), Nat.zero_le _⟩, fun c => Nat.zero_le _⟩
  have hl := hm i hi
  refine rightB_ok ?_ ?_
  · cases ho : oddA a with
    | false => rfl
    | true => exact absurd (List.any_eq_true.2 ⟨_, hl, List.any_eq_true.2 ⟨a, ha, ho⟩⟩) (by unfold oddsIn at h5; rw [h5]; simp)
  · cases ho : wrongA (acts.getD i []).length a with
    | false => exact ho
    | true => exact absurd (List.any_eq_true.2 ⟨_, hl, List.any_eq_true.2 ⟨a, ha, ho⟩⟩) (by unfold wrongsIn at h6; rw [h6]; simp)
/-- Picks, none of them below 0. -/
theorem row_nat {w : World} {pv : Value} {ps : List Int} (h : Row intv w pv ps) (hn : ∀ k ∈ ps, 0 ≤ k) : Row natv w pv (ps.map Int.toNat) := by
  obtain ⟨a, cap, rfl, h1, h2, h3⟩ := h
  refine ⟨a, cap, by rw [List.length_map], by rwa [List.length_map], h2, fun h0 => ?_⟩
  obtain ⟨g, off, rfl, hg, hh⟩ := h3 (by rwa [List.length_map] at h0)
  refine ⟨g, off, rfl, hg, fun i hi => ?_⟩
  have hi' : i < ps.length := by rwa [List.length_map] at hi
  have := hn _ (List.getElem_mem hi')
  rw [hh i hi', List.getElem_map]
  show some (iv ps[i]) = some (iv ((ps[i].toNat : Nat) : Int))
  rw [Int.toNat_of_nonneg this]
theorem Row.lt {α : Type} {f : α → Value} {w : World} {v : Value} {l : List α} (h : Row f w v l) (hl : 0 < l.length) : ∀ g, v.ownBlock = some g → g < w.heap.size := fun g hg => by
  obtain ⟨a, cap, rfl, h1, h2, h3⟩ := h
  obtain ⟨g2, off, rfl, hg2, _⟩ := h3 hl
  simp [Value.ownBlock] at hg
  subst hg
  exact hg2
theorem Row.below' {α : Type} {f : α → Value} {w w' : World} {v : Value} {l : List α} {B : Nat} (h : Row f w v l) (hb : Below B w w') (hB : ∀ g, v.ownBlock = some g → g < B) : Row f w' v l := by
  obtain ⟨a, cap, rfl, h1, h2, h3⟩ := h
  refine ⟨a, cap, rfl, h1, h2, fun h0 => ?_⟩
  obtain ⟨g, off, rfl, hg, hh⟩ := h3 h0
  have hgb := hB g rfl
  exact ⟨g, off, rfl, Nat.lt_of_lt_of_le hg hb.size, fun i hi => (World.cell?_of_block (w := w) (a := ⟨g, off + i, none⟩) (hb.block g hgb)).trans (hh i hi)⟩
theorem all_wf (picks : List Nat) : ∀ (k : Nat) (s : S) (L : Nat), WF s L → WF (all picks k s) (L + k) ∧ (all picks k s).n = s.n ∧ (all picks k s).trace.length ≤ s.trace.length + k
  | 0, s, L, h => ⟨h, rfl, Nat.le_refl _⟩
  | k + 1, s, L, h => by
    by_cases hr : ready s = []
    · rw [all_stop hr]
      exact ⟨h.mono (by omega), rfl, by omega⟩
    · rw [all_go hr]
      obtain ⟨hin, hhow⟩ := ready_mem (next_mem (s := s) (picks := picks) hr)
      obtain ⟨h1, h2, h3⟩ := step_ok h hin hhow
      obtain ⟨h4, h5, h6⟩ := all_wf picks k _ _ h1
      refine ⟨h4.mono (by omega), h5.trans h2, ?_⟩
      rw [h3, List.length_append] at h6
      simp at h6
      omega
theorem TasksV.here {B : Nat} {w : World} {tv : Value} {acts : List (List A)} (h : TasksV B w tv acts) : TasksV w.heap.size w tv acts := by
  obtain ⟨a, cap, h1, h2, h3, h4⟩ := h
  refine ⟨a, cap, h1, h2, h3, fun h0 => ?_⟩
  obtain ⟨g, off, h5, h6, h7, h8⟩ := h4 h0
  refine ⟨g, off, h5, h7, h7, fun i hi => ?_⟩
  obtain ⟨v, h9, a2, c2, e1, e2, e3, e4⟩ := h8 i hi
  refine ⟨v, h9, a2, c2, e1, e2, e3, fun hn => ?_⟩
  obtain ⟨g3, o3, e5, e6, e7, e8⟩ := e4 hn
  exact ⟨g3, o3, e5, e7, e7, e8⟩
end Go.Proofs.Ytompelilflckkaa
/-
  The scheduler's Ready.
-/
namespace Go.Proofs.Ytompelilflckkaa
open Go.RowKit Go.Fl

set_option maxRecDepth 100000 in
set_option maxHeartbeats 3200000 in
theorem ready_bad {w : World} {tv pv : Value} {acts : List (List A)} {ps : List Int} (room : Int) (h : TasksV w.heap.size w tv acts) (hp : Row intv w pv ps) (hk : askedM acts room ps 0 ≠ 0) :
    Calls Try.prog 17 #[tv, iv room, pv] w fun e w' => e = .returned (.tuple #[.slice none 0 0, iv (askedM acts room ps 0)]) ∧ Only [] w w' := by
  have HA := Lib.hid (asked_ok (base := w.heap.size) room 0 h (Nat.le_refl _) hp)
  have hz : (askedM acts room ps 0 == 0) = false := by simpa using hk
  generalize askedM acts room ps 0 = m at *
  go_enter Try.func17, Try.ntmps17
  go_wp2_with fail
  refine HA.out.mono ?_
  clear HA
  rintro e w1 ⟨rfl, hO1⟩
  have HO := Lib.hid hO1
  clear hO1
  go_wp2
  exact bodyPost_ret (v := .tuple #[.slice none 0 0, iv m]) (results2 rfl (res_tmp rfl) (res_tmp rfl)) rfl ⟨rfl, HO.out⟩
set_option maxRecDepth 100000 in
set_option maxHeartbeats 3200000 in
theorem ready_run {w : World} {tv pv : Value} {acts : List (List A)} {ps : List Int} (room : Int) (h : TasksV w.heap.size w tv acts) (hp : Row intv w pv ps) (hpb : ∀ g, pv.ownBlock = some g → g < w.heap.size) (hk : askedM acts room ps 0 = 0) :
    Calls Try.prog 17 #[tv, iv room, pv] w fun e w' => ∃ u, e = .returned (.tuple #[u, iv 0]) ∧ Sl w' 3 1 u (ready (all (ps.map Int.toNat) ps.length (begin_ acts room))).length (nats (ready (all (ps.map Int.toNat) ps.length (begin_ acts room)))) ∧
      (∀ g, u.ownBlock = some g → w.heap.size ≤ g) ∧ Below w.heap.size w w' := by
  have HA := Lib.hid (asked_ok (base := w.heap.size) room 0 h (Nat.le_refl _) hp)
  obtain ⟨q1, q2, q3, q4, q5, q6, q7, q8, q9, q10⟩ := asked_zero hk
  rw [hk] at HA
  have HWF := Lib.hid (begin_wf q1 q2 q3 q8 q9 q10)
  have HPN := Lib.hid (row_nat hp q7)
  have HPB := Lib.hid hpb
  have HT := Lib.hid h
  obtain ⟨pa, pc, hpv, _, _, _⟩ := hp
  clear q7 q8 q9 q10 hpb h hk
  subst hpv
  go_enter Try.func17, Try.ntmps17
  go_wp2_with fail
  refine HA.out.mono ?_
  clear HA
  rintro e w1 ⟨rfl, hO1⟩
  have HO := Lib.hid hO1
  have hsz := hO1.size
  have HBG := Lib.hid (begun_run (room := room) (HT.out.below (Below.of_only hO1 (Nat.le_refl _))).here (by omega))
  clear hO1 HT
  go_wp2_with fail
  refine HBG.out.mono ?_
  clear HBG
  rintro e w2 ⟨r, f, b, rfl, hR, hB⟩
  have HPN2 := Lib.hid (Row.below' (HPN.out.only HO.out) hB (fun g hg => Nat.lt_of_lt_of_le (HPB.out g hg) hsz))
  have HAL := Lib.hid (all_ok (most := ps.length) hR HWF.out HPN2.out (fun g hg => Nat.lt_of_lt_of_le (HPB.out g hg) hsz) (by omega) (Nat.zero_le _))
  have HB2 := Lib.hid hB
  clear hR hB
  go_wp2_with fail
  refine HAL.out.mono ?_
  clear HAL
  rintro e w3 ⟨rfl, ⟨f3, hR⟩, hB⟩
  have HB3 := Lib.hid (HB2.out.trans hB)
  have hR : RS w3 w1.heap.size r f3 b (all (ps.map Int.toNat) ps.length (begin_ acts room)) := hR
  have hw3 := (all_wf (ps.map Int.toNat) ps.length _ _ HWF.out).1
  rw [Nat.zero_add] at hw3
  have HRD := Lib.hid (ready_ok hR hw3 (by omega))
  clear hR hB HB2 HPN2 hw3
  generalize hs : all (ps.map Int.toNat) ps.length (begin_ acts room) = s at HRD
  have HS := Lib.hid hs
  clear hs
  go_wp2_with fail
  refine HRD.out.mono ?_
  clear HRD
  rintro e w4 ⟨u, rfl, hS, hF, hO⟩
  have HSl := Lib.hid hS
  have HF := Lib.hid hF
  have HO4 := Lib.hid hO
  clear hS hF hO
  go_wp2
  refine bodyPost_ret (v := .tuple #[u, iv 0]) (results2 rfl (res_tmp rfl) (res_tmp rfl)) rfl ⟨u, rfl, ?_, ?_, ?_⟩
  · rw [HS.out]; exact HSl.out
  · intro g hg
    have := HF.out g hg
    have := HB3.out.size
    omega
  · have g1 : Below w.heap.size w w1 := Below.of_only HO.out (Nat.le_refl _)
    have g2 : Below w.heap.size w1 w3 := ⟨HB3.out.os, HB3.out.tape, HB3.out.output, HB3.out.size, fun i hi => HB3.out.block i (by omega)⟩
    have g3 : Below w.heap.size w3 w4 := Below.of_only HO4.out (Nat.le_trans hsz g2.size)
    exact (g1.trans g2).trans g3
end Go.Proofs.Ytompelilflckkaa
/-
  The law's begun in plain words.
-/
namespace Go.Proofs.Ytompelilflckkaa
open Go.RowKit Go.Fl

def actsB : List (List A) := [[⟨13, 0, 0, 2⟩, ⟨12, 0, 0, 9⟩, ⟨8, 0, 0, 1⟩], [⟨7, 0, 0, 0⟩]]
def sB : S := all [] 99 (begin_ actsB 1)
theorem sB_trace : sB.trace.length = 3 := by kernel_rfl
theorem sB_7 : sB.regs 7 = 9 := by kernel_rfl
theorem sB_0 : sB.regs 0 = 1 := by kernel_rfl
theorem sB_how0 : how sB (sB.ts 0) = 1 := by kernel_rfl
theorem sB_how1 : how sB (sB.ts 1) = 7 := by kernel_rfl
theorem sB_n : sB.n = 2 := by kernel_rfl
theorem asked_B : askedM actsB 1 [] 99 = 0 := by kernel_rfl
def actsC : List (List A) := [[⟨11, 0, 0, 0⟩]]
theorem ready_C : ready (all [] 0 (begin_ actsC 1)) = [0] := by kernel_rfl
theorem asked_C : askedM actsC 1 [] 0 = 0 := by kernel_rfl
theorem may_nil : mayM [] = 0 := by kernel_rfl
end Go.Proofs.Ytompelilflckkaa
