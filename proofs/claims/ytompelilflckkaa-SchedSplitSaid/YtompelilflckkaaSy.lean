/-
  The scheduler: which tasks may be.
-/
import Derived.Test.YtompelilflckkaaSx
import Derived.Test.YtompelilflckkaaSw
namespace Go.Proofs.Ytompelilflckkaa
open Go.RowKit Go.Fl

def oddA (a : A) : Bool := decide (a.kind < 1) || decide (13 < a.kind)
def wrongA (len : Nat) (a : A) : Bool := !(rightB a.kind a.a a.b a.n len)
def oddsIn (acts : List (List A)) : Bool := acts.any fun l => l.any oddA
def wrongsIn (acts : List (List A)) : Bool := acts.any fun l => l.any (wrongA l.length)
/-- May tasks be? -/
def mayM (acts : List (List A)) : Int :=
  if 16 < acts.length ∨ acts.any (fun l => decide (256 < l.length)) = true then 9 else if oddsIn acts = true then 62 else if wrongsIn acts = true then 1 else 0
theorem any_succ {α : Type} (p : α → Bool) (l : List α) {k : Nat} (h : k < l.length) : (l.take (k + 1)).any p = ((l.take k).any p || p l[k]) := by
  rw [List.take_succ_eq_append_getElem h, List.any_append]; simp

set_option maxRecDepth 100000 in
set_option maxHeartbeats 6400000 in
theorem may_ok {base : Nat} {w : World} {tv : Value} {acts : List (List A)} (h : TasksV base w tv acts) (hb : base ≤ w.heap.size) :
    Calls Try.prog 11 #[tv] w fun e w' => e = .returned (iv (mayM acts)) ∧ Only [] w w' := by
  have H := Lib.hid h
  obtain ⟨a, c, hv, hc, hcm, _⟩ := h
  subst hv
  have hs0 : acts.length ≤ 9223372036854775807 := by unfold maxLen at hcm; omega
  by_cases h16 : 16 < acts.length
  · have h16z : (16 : Int) < (acts.length : Int) := by omega
    have HM := Lib.hid (show mayM acts = 9 by unfold mayM; rw [if_pos (.inl h16)])
    go_enter Try.func11, Try.ntmps11
    go_wp2
    refine bodyPost_ret (results_tmp rfl _ _ _) rfl ⟨?_, Only.refl _ _⟩
    rw [HM.out]; rfl
  · have h16z : (acts.length : Int) ≤ 16 := by omega
    go_enter Try.func11, Try.ntmps11
    go_wp2
    go_loopw [3, 4, 14] (fun u3 u4 z wr => ∃ (k : Nat) (o0 x0 : Bool), k ≤ acts.length ∧ z = .int .i64 k ∧ u3 = .bool o0 ∧ u4 = .bool x0 ∧ Hid (o0 = oddsIn (acts.take k)) ∧ Hid (x0 = wrongsIn (acts.take k)) ∧ Hid ((acts.take k).any (fun l => decide (256 < l.length)) = false) ∧ Hid (Only [] w wr)) (fun _ _ z _ => acts.length - (intOf z).toNat)
    case atStart => exact ⟨0, false, false, Nat.zero_le _, rfl, rfl, rfl, Lib.hid rfl, Lib.hid rfl, Lib.hid rfl, Lib.hid (Only.refl _ _)⟩
    case round =>
      obtain ⟨k, o0, x0, hk, rfl, rfl, rfl, HO0, HX0, HL, HO⟩ := hrel
      by_cases hkl : k < acts.length
      · have hkz : (k : Int) < (acts.length : Int) := by omega
        obtain ⟨a', c', hv', _, _, hcell⟩ := H.out.below (Below.of_only HO.out hb)
        obtain ⟨g, off, ha, hgb, hg, hcc⟩ := hcell (by omega)
        injection hv' with e1 e2 e3
        subst e1
        subst e3
        subst ha
        clear e2
        obtain ⟨v, cv, hA⟩ := hcc k hkl
        obtain ⟨x, hx⟩ : ∃ x, acts[k] = x := ⟨_, rfl⟩
        have HO3 := Lib.hid (show oddsIn (acts.take (k + 1)) = (o0 || x.any oddA) by rw [HO0.out]; unfold oddsIn; rw [any_succ _ _ hkl, hx])
        have HW3 := Lib.hid (show wrongsIn (acts.take (k + 1)) = (x0 || x.any (wrongA x.length)) by rw [HX0.out]; unfold wrongsIn; rw [any_succ _ _ hkl, hx])
        have HL3 := Lib.hid (show (acts.take (k + 1)).any (fun l => decide (256 < l.length)) = decide (256 < x.length) by rw [any_succ _ _ hkl, hx, HL.out, Bool.false_or])
        have HXA := Lib.hid (show x ∈ acts from hx ▸ List.getElem_mem hkl)
        rw [hx] at hA
        obtain ⟨va, vc, hva, hvl, hvm, _⟩ := id hA
        have HA := Lib.hid hA
        clear hcell hcc hA hx
        subst hva
        by_cases h256 : 256 < x.length
        · have h256z : (256 : Int) < (x.length : Int) := by omega
          have HM := Lib.hid (show mayM acts = 9 by
            unfold mayM
            rw [if_pos (.inr (List.any_eq_true.2 ⟨x, HXA.out, by simpa using h256⟩))])
          go_wp2
          refine bodyPost_ret (results_tmp rfl _ _ _) rfl ⟨?_, HO.out⟩
          rw [HM.out]; rfl
        · have h256z : (x.length : Int) ≤ 256 := by omega
          clear HO0 HX0
          go_wp2
          go_loopw [3, 4, 23] (fun u3 u4 z wq => ∃ (j : Nat) (ov xv : Bool), j ≤ x.length ∧ z = .int .i64 j ∧ u3 = .bool ov ∧ u4 = .bool xv ∧ Hid (ov = (o0 || (x.take j).any oddA)) ∧ Hid (xv = (x0 || (x.take j).any (wrongA x.length))) ∧ Hid (Only [] wr wq)) (fun _ _ z _ => x.length - (intOf z).toNat)
          case atStart => exact ⟨0, o0, x0, Nat.zero_le _, rfl, rfl, rfl, Lib.hid (by simp), Lib.hid (by simp), Lib.hid (Only.refl _ _)⟩
          case round =>
            obtain ⟨j, ov, xv, hj, rfl, rfl, rfl, HOV, HXV, HO1⟩ := hrel
            by_cases hjl : j < x.length
            · have hjz : (j : Int) < (x.length : Int) := by omega
              obtain ⟨va', vc', hv', _, _, hcell⟩ := HA.out.below (Below.of_only HO1.out (Nat.le_trans hb HO.out.size))
              obtain ⟨gx, ox, ha, _, hgx, hcc⟩ := hcell (by omega)
              injection hv' with e1 e2 e3
              subst e1
              subst e3
              subst ha
              clear e2
              obtain ⟨y, hy⟩ : ∃ y, x[j] = y := ⟨_, rfl⟩
              obtain ⟨c0, c1, c2, c3⟩ := hcc j hjl
              rw [hy] at c0 c1 c2 c3
              have HNO := Lib.hid (show (o0 || (x.take (j + 1)).any oddA) = (ov || oddA y) by rw [any_succ _ _ hjl, hy, HOV.out, Bool.or_assoc])
              have HNX := Lib.hid (show (x0 || (x.take (j + 1)).any (wrongA x.length)) = (xv || wrongA x.length y) by rw [any_succ _ _ hjl, hy, HXV.out, Bool.or_assoc])
              have HR := Lib.hid (right_ok (w := wr.alloc (.cells #[iv y.kind, iv y.a, iv y.b, iv y.n] 47)) (a := y.a) (b := y.b) (n := y.n) (len := x.length) y.kind)
              have hk3 : y.kind < 1 ∨ (1 ≤ y.kind ∧ y.kind ≤ 13) ∨ 13 < y.kind := by omega
              clear hcell hcc hy HOV HXV
              cases xv with
              | true =>
                have HNX := Lib.hid (show (x0 || (x.take (j + 1)).any (wrongA x.length)) = (true || true) by rw [HNX.out]; rfl)
                have HOA := HO1
                clear HR
                rcases hk3 with hk | ⟨hk, hk4⟩ | hk
                · have hod : oddA y = true := by unfold oddA; simp [hk]
                  rw [hod] at HNO
                  cases ov
                  ·
                    go_wp2
                    go_roundw
                    case measure => simp [intOf]; omega
                    case rel => exact ⟨j + 1, true, true, by omega, by go_num, rfl, rfl, Lib.hid (by rw [HNO.out]; rfl), Lib.hid (by rw [HNX.out]; rfl), Lib.hid (by (repeat (first | with_reducible exact Only.refl _ _ | with_reducible exact HOA.out | with_reducible refine Only.drew ?_ | with_reducible refine Only.drewN ?_ _ | with_reducible refine Only.alloc ?_ _ | ((with_reducible refine Only.setCell ?_ ?_ _); rotate_left; (focus (first | (left; simp; done) | (right; simp; done) | (right; simp; omega) | (right; omega)))))))⟩
                  ·
                    go_wp2
                    go_roundw
                    case measure => simp [intOf]; omega
                    case rel => exact ⟨j + 1, true, true, by omega, by go_num, rfl, rfl, Lib.hid (by rw [HNO.out]; rfl), Lib.hid (by rw [HNX.out]; rfl), Lib.hid (by (repeat (first | with_reducible exact Only.refl _ _ | with_reducible exact HOA.out | with_reducible refine Only.drew ?_ | with_reducible refine Only.drewN ?_ _ | with_reducible refine Only.alloc ?_ _ | ((with_reducible refine Only.setCell ?_ ?_ _); rotate_left; (focus (first | (left; simp; done) | (right; simp; done) | (right; simp; omega) | (right; omega)))))))⟩
                · have hod : oddA y = false := by unfold oddA; simp; omega
                  have hd1 : decide (y.kind < 1) = false := decide_eq_false (by omega)
                  have hd2 : decide (13 < y.kind) = false := decide_eq_false (by omega)
                  rw [hod] at HNO
                  cases ov
                  ·
                    go_wp2
                    go_roundw
                    case measure => simp [intOf]; omega
                    case rel => exact ⟨j + 1, false, true, by omega, by go_num, rfl, rfl, Lib.hid (by rw [HNO.out]; rfl), Lib.hid (by rw [HNX.out]; rfl), Lib.hid (by (repeat (first | with_reducible exact Only.refl _ _ | with_reducible exact HOA.out | with_reducible refine Only.drew ?_ | with_reducible refine Only.drewN ?_ _ | with_reducible refine Only.alloc ?_ _ | ((with_reducible refine Only.setCell ?_ ?_ _); rotate_left; (focus (first | (left; simp; done) | (right; simp; done) | (right; simp; omega) | (right; omega)))))))⟩
                  ·
                    go_wp2
                    go_roundw
                    case measure => simp [intOf]; omega
                    case rel => exact ⟨j + 1, true, true, by omega, by go_num, rfl, rfl, Lib.hid (by rw [HNO.out]; rfl), Lib.hid (by rw [HNX.out]; rfl), Lib.hid (by (repeat (first | with_reducible exact Only.refl _ _ | with_reducible exact HOA.out | with_reducible refine Only.drew ?_ | with_reducible refine Only.drewN ?_ _ | with_reducible refine Only.alloc ?_ _ | ((with_reducible refine Only.setCell ?_ ?_ _); rotate_left; (focus (first | (left; simp; done) | (right; simp; done) | (right; simp; omega) | (right; omega)))))))⟩
                · have hod : oddA y = true := by unfold oddA; simp [hk]
                  have hk5 : 1 ≤ y.kind := by omega
                  rw [hod] at HNO
                  cases ov
                  ·
                    go_wp2
                    go_roundw
                    case measure => simp [intOf]; omega
                    case rel => exact ⟨j + 1, true, true, by omega, by go_num, rfl, rfl, Lib.hid (by rw [HNO.out]; rfl), Lib.hid (by rw [HNX.out]; rfl), Lib.hid (by (repeat (first | with_reducible exact Only.refl _ _ | with_reducible exact HOA.out | with_reducible refine Only.drew ?_ | with_reducible refine Only.drewN ?_ _ | with_reducible refine Only.alloc ?_ _ | ((with_reducible refine Only.setCell ?_ ?_ _); rotate_left; (focus (first | (left; simp; done) | (right; simp; done) | (right; simp; omega) | (right; omega)))))))⟩
                  ·
                    go_wp2
                    go_roundw
                    case measure => simp [intOf]; omega
                    case rel => exact ⟨j + 1, true, true, by omega, by go_num, rfl, rfl, Lib.hid (by rw [HNO.out]; rfl), Lib.hid (by rw [HNX.out]; rfl), Lib.hid (by (repeat (first | with_reducible exact Only.refl _ _ | with_reducible exact HOA.out | with_reducible refine Only.drew ?_ | with_reducible refine Only.drewN ?_ _ | with_reducible refine Only.alloc ?_ _ | ((with_reducible refine Only.setCell ?_ ?_ _); rotate_left; (focus (first | (left; simp; done) | (right; simp; done) | (right; simp; omega) | (right; omega)))))))⟩
              | false =>
                cases hrb : rightB y.kind y.a y.b y.n x.length with
                | true =>
                  have hwr : wrongA x.length y = false := by unfold wrongA; rw [hrb]; rfl
                  rw [hrb] at HR
                  rw [hwr] at HNX
                  clear hrb hwr
                  rcases hk3 with hk | ⟨hk, hk4⟩ | hk
                  · have hod : oddA y = true := by unfold oddA; simp [hk]
                    rw [hod] at HNO
                    cases ov
                    ·
                      go_wp2_with fail
                      refine HR.out.mono ?_
                      clear HR
                      rintro e w5 ⟨rfl, hO5⟩
                      have HOA := Lib.hid ((HO1.out.alloc (.cells #[iv y.kind, iv y.a, iv y.b, iv y.n] 47)).trans hO5)
                      clear hO5
                      go_wp2
                      go_roundw
                      case measure => simp [intOf]; omega
                      case rel => exact ⟨j + 1, true, false, by omega, by go_num, rfl, rfl, Lib.hid (by rw [HNO.out]; rfl), Lib.hid (by rw [HNX.out]; rfl), Lib.hid (by (repeat (first | with_reducible exact Only.refl _ _ | with_reducible exact HOA.out | with_reducible refine Only.drew ?_ | with_reducible refine Only.drewN ?_ _ | with_reducible refine Only.alloc ?_ _ | ((with_reducible refine Only.setCell ?_ ?_ _); rotate_left; (focus (first | (left; simp; done) | (right; simp; done) | (right; simp; omega) | (right; omega)))))))⟩
                    ·
                      go_wp2_with fail
                      refine HR.out.mono ?_
                      clear HR
                      rintro e w5 ⟨rfl, hO5⟩
                      have HOA := Lib.hid ((HO1.out.alloc (.cells #[iv y.kind, iv y.a, iv y.b, iv y.n] 47)).trans hO5)
                      clear hO5
                      go_wp2
                      go_roundw
                      case measure => simp [intOf]; omega
                      case rel => exact ⟨j + 1, true, false, by omega, by go_num, rfl, rfl, Lib.hid (by rw [HNO.out]; rfl), Lib.hid (by rw [HNX.out]; rfl), Lib.hid (by (repeat (first | with_reducible exact Only.refl _ _ | with_reducible exact HOA.out | with_reducible refine Only.drew ?_ | with_reducible refine Only.drewN ?_ _ | with_reducible refine Only.alloc ?_ _ | ((with_reducible refine Only.setCell ?_ ?_ _); rotate_left; (focus (first | (left; simp; done) | (right; simp; done) | (right; simp; omega) | (right; omega)))))))⟩
                  · have hod : oddA y = false := by unfold oddA; simp; omega
                    have hd1 : decide (y.kind < 1) = false := decide_eq_false (by omega)
                    have hd2 : decide (13 < y.kind) = false := decide_eq_false (by omega)
                    rw [hod] at HNO
                    cases ov
                    ·
                      go_wp2_with fail
                      refine HR.out.mono ?_
                      clear HR
                      rintro e w5 ⟨rfl, hO5⟩
                      have HOA := Lib.hid ((HO1.out.alloc (.cells #[iv y.kind, iv y.a, iv y.b, iv y.n] 47)).trans hO5)
                      clear hO5
                      go_wp2
                      go_roundw
                      case measure => simp [intOf]; omega
                      case rel => exact ⟨j + 1, false, false, by omega, by go_num, rfl, rfl, Lib.hid (by rw [HNO.out]; rfl), Lib.hid (by rw [HNX.out]; rfl), Lib.hid (by (repeat (first | with_reducible exact Only.refl _ _ | with_reducible exact HOA.out | with_reducible refine Only.drew ?_ | with_reducible refine Only.drewN ?_ _ | with_reducible refine Only.alloc ?_ _ | ((with_reducible refine Only.setCell ?_ ?_ _); rotate_left; (focus (first | (left; simp; done) | (right; simp; done) | (right; simp; omega) | (right; omega)))))))⟩
                    ·
                      go_wp2_with fail
                      refine HR.out.mono ?_
                      clear HR
                      rintro e w5 ⟨rfl, hO5⟩
                      have HOA := Lib.hid ((HO1.out.alloc (.cells #[iv y.kind, iv y.a, iv y.b, iv y.n] 47)).trans hO5)
                      clear hO5
                      go_wp2
                      go_roundw
                      case measure => simp [intOf]; omega
                      case rel => exact ⟨j + 1, true, false, by omega, by go_num, rfl, rfl, Lib.hid (by rw [HNO.out]; rfl), Lib.hid (by rw [HNX.out]; rfl), Lib.hid (by (repeat (first | with_reducible exact Only.refl _ _ | with_reducible exact HOA.out | with_reducible refine Only.drew ?_ | with_reducible refine Only.drewN ?_ _ | with_reducible refine Only.alloc ?_ _ | ((with_reducible refine Only.setCell ?_ ?_ _); rotate_left; (focus (first | (left; simp; done) | (right; simp; done) | (right; simp; omega) | (right; omega)))))))⟩
                  · have hod : oddA y = true := by unfold oddA; simp [hk]
                    have hk5 : 1 ≤ y.kind := by omega
                    rw [hod] at HNO
                    cases ov
                    ·
                      go_wp2_with fail
                      refine HR.out.mono ?_
                      clear HR
                      rintro e w5 ⟨rfl, hO5⟩
                      have HOA := Lib.hid ((HO1.out.alloc (.cells #[iv y.kind, iv y.a, iv y.b, iv y.n] 47)).trans hO5)
                      clear hO5
                      go_wp2
                      go_roundw
                      case measure => simp [intOf]; omega
                      case rel => exact ⟨j + 1, true, false, by omega, by go_num, rfl, rfl, Lib.hid (by rw [HNO.out]; rfl), Lib.hid (by rw [HNX.out]; rfl), Lib.hid (by (repeat (first | with_reducible exact Only.refl _ _ | with_reducible exact HOA.out | with_reducible refine Only.drew ?_ | with_reducible refine Only.drewN ?_ _ | with_reducible refine Only.alloc ?_ _ | ((with_reducible refine Only.setCell ?_ ?_ _); rotate_left; (focus (first | (left; simp; done) | (right; simp; done) | (right; simp; omega) | (right; omega)))))))⟩
                    ·
                      go_wp2_with fail
                      refine HR.out.mono ?_
                      clear HR
                      rintro e w5 ⟨rfl, hO5⟩
                      have HOA := Lib.hid ((HO1.out.alloc (.cells #[iv y.kind, iv y.a, iv y.b, iv y.n] 47)).trans hO5)
                      clear hO5
                      go_wp2
                      go_roundw
                      case measure => simp [intOf]; omega
                      case rel => exact ⟨j + 1, true, false, by omega, by go_num, rfl, rfl, Lib.hid (by rw [HNO.out]; rfl), Lib.hid (by rw [HNX.out]; rfl), Lib.hid (by (repeat (first | with_reducible exact Only.refl _ _ | with_reducible exact HOA.out | with_reducible refine Only.drew ?_ | with_reducible refine Only.drewN ?_ _ | with_reducible refine Only.alloc ?_ _ | ((with_reducible refine Only.setCell ?_ ?_ _); rotate_left; (focus (first | (left; simp; done) | (right; simp; done) | (right; simp; omega) | (right; omega)))))))⟩
                | false =>
                  have hwr : wrongA x.length y = true := by unfold wrongA; rw [hrb]; rfl
                  rw [hrb] at HR
                  rw [hwr] at HNX
                  clear hrb hwr
                  rcases hk3 with hk | ⟨hk, hk4⟩ | hk
                  · have hod : oddA y = true := by unfold oddA; simp [hk]
                    rw [hod] at HNO
                    cases ov
                    ·
                      go_wp2_with fail
                      refine HR.out.mono ?_
                      clear HR
                      rintro e w5 ⟨rfl, hO5⟩
                      have HOA := Lib.hid ((HO1.out.alloc (.cells #[iv y.kind, iv y.a, iv y.b, iv y.n] 47)).trans hO5)
                      clear hO5
                      go_wp2
                      go_roundw
                      case measure => simp [intOf]; omega
                      case rel => exact ⟨j + 1, true, true, by omega, by go_num, rfl, rfl, Lib.hid (by rw [HNO.out]; rfl), Lib.hid (by rw [HNX.out]; rfl), Lib.hid (by (repeat (first | with_reducible exact Only.refl _ _ | with_reducible exact HOA.out | with_reducible refine Only.drew ?_ | with_reducible refine Only.drewN ?_ _ | with_reducible refine Only.alloc ?_ _ | ((with_reducible refine Only.setCell ?_ ?_ _); rotate_left; (focus (first | (left; simp; done) | (right; simp; done) | (right; simp; omega) | (right; omega)))))))⟩
                    ·
                      go_wp2_with fail
                      refine HR.out.mono ?_
                      clear HR
                      rintro e w5 ⟨rfl, hO5⟩
                      have HOA := Lib.hid ((HO1.out.alloc (.cells #[iv y.kind, iv y.a, iv y.b, iv y.n] 47)).trans hO5)
                      clear hO5
                      go_wp2
                      go_roundw
                      case measure => simp [intOf]; omega
                      case rel => exact ⟨j + 1, true, true, by omega, by go_num, rfl, rfl, Lib.hid (by rw [HNO.out]; rfl), Lib.hid (by rw [HNX.out]; rfl), Lib.hid (by (repeat (first | with_reducible exact Only.refl _ _ | with_reducible exact HOA.out | with_reducible refine Only.drew ?_ | with_reducible refine Only.drewN ?_ _ | with_reducible refine Only.alloc ?_ _ | ((with_reducible refine Only.setCell ?_ ?_ _); rotate_left; (focus (first | (left; simp; done) | (right; simp; done) | (right; simp; omega) | (right; omega)))))))⟩
                  · have hod : oddA y = false := by unfold oddA; simp; omega
                    have hd1 : decide (y.kind < 1) = false := decide_eq_false (by omega)
                    have hd2 : decide (13 < y.kind) = false := decide_eq_false (by omega)
                    rw [hod] at HNO
                    cases ov
                    ·
                      go_wp2_with fail
                      refine HR.out.mono ?_
                      clear HR
                      rintro e w5 ⟨rfl, hO5⟩
                      have HOA := Lib.hid ((HO1.out.alloc (.cells #[iv y.kind, iv y.a, iv y.b, iv y.n] 47)).trans hO5)
                      clear hO5
                      go_wp2
                      go_roundw
                      case measure => simp [intOf]; omega
                      case rel => exact ⟨j + 1, false, true, by omega, by go_num, rfl, rfl, Lib.hid (by rw [HNO.out]; rfl), Lib.hid (by rw [HNX.out]; rfl), Lib.hid (by (repeat (first | with_reducible exact Only.refl _ _ | with_reducible exact HOA.out | with_reducible refine Only.drew ?_ | with_reducible refine Only.drewN ?_ _ | with_reducible refine Only.alloc ?_ _ | ((with_reducible refine Only.setCell ?_ ?_ _); rotate_left; (focus (first | (left; simp; done) | (right; simp; done) | (right; simp; omega) | (right; omega)))))))⟩
                    ·
                      go_wp2_with fail
                      refine HR.out.mono ?_
                      clear HR
                      rintro e w5 ⟨rfl, hO5⟩
                      have HOA := Lib.hid ((HO1.out.alloc (.cells #[iv y.kind, iv y.a, iv y.b, iv y.n] 47)).trans hO5)
                      clear hO5
                      go_wp2
                      go_roundw
                      case measure => simp [intOf]; omega
                      case rel => exact ⟨j + 1, true, true, by omega, by go_num, rfl, rfl, Lib.hid (by rw [HNO.out]; rfl), Lib.hid (by rw [HNX.out]; rfl), Lib.hid (by (repeat (first | with_reducible exact Only.refl _ _ | with_reducible exact HOA.out | with_reducible refine Only.drew ?_ | with_reducible refine Only.drewN ?_ _ | with_reducible refine Only.alloc ?_ _ | ((with_reducible refine Only.setCell ?_ ?_ _); rotate_left; (focus (first | (left; simp; done) | (right; simp; done) | (right; simp; omega) | (right; omega)))))))⟩
                  · have hod : oddA y = true := by unfold oddA; simp [hk]
                    have hk5 : 1 ≤ y.kind := by omega
                    rw [hod] at HNO
                    cases ov
                    ·
                      go_wp2_with fail
                      refine HR.out.mono ?_
                      clear HR
                      rintro e w5 ⟨rfl, hO5⟩
                      have HOA := Lib.hid ((HO1.out.alloc (.cells #[iv y.kind, iv y.a, iv y.b, iv y.n] 47)).trans hO5)
                      clear hO5
                      go_wp2
                      go_roundw
                      case measure => simp [intOf]; omega
                      case rel => exact ⟨j + 1, true, true, by omega, by go_num, rfl, rfl, Lib.hid (by rw [HNO.out]; rfl), Lib.hid (by rw [HNX.out]; rfl), Lib.hid (by (repeat (first | with_reducible exact Only.refl _ _ | with_reducible exact HOA.out | with_reducible refine Only.drew ?_ | with_reducible refine Only.drewN ?_ _ | with_reducible refine Only.alloc ?_ _ | ((with_reducible refine Only.setCell ?_ ?_ _); rotate_left; (focus (first | (left; simp; done) | (right; simp; done) | (right; simp; omega) | (right; omega)))))))⟩
                    ·
                      go_wp2_with fail
                      refine HR.out.mono ?_
                      clear HR
                      rintro e w5 ⟨rfl, hO5⟩
                      have HOA := Lib.hid ((HO1.out.alloc (.cells #[iv y.kind, iv y.a, iv y.b, iv y.n] 47)).trans hO5)
                      clear hO5
                      go_wp2
                      go_roundw
                      case measure => simp [intOf]; omega
                      case rel => exact ⟨j + 1, true, true, by omega, by go_num, rfl, rfl, Lib.hid (by rw [HNO.out]; rfl), Lib.hid (by rw [HNX.out]; rfl), Lib.hid (by (repeat (first | with_reducible exact Only.refl _ _ | with_reducible exact HOA.out | with_reducible refine Only.drew ?_ | with_reducible refine Only.drewN ?_ _ | with_reducible refine Only.alloc ?_ _ | ((with_reducible refine Only.setCell ?_ ?_ _); rotate_left; (focus (first | (left; simp; done) | (right; simp; done) | (right; simp; omega) | (right; omega)))))))⟩
            · obtain rfl : j = x.length := by omega
              have HF0 := Lib.hid (show ov = oddsIn (acts.take (k + 1)) by rw [HO3.out, HOV.out, List.take_length])
              have HF1 := Lib.hid (show xv = wrongsIn (acts.take (k + 1)) by rw [HW3.out, HXV.out, List.take_length])
              have HF2 := Lib.hid (show (acts.take (k + 1)).any (fun l => decide (256 < l.length)) = false by rw [HL3.out]; exact decide_eq_false h256)
              have HF3 := Lib.hid (HO.out.trans HO1.out)
              go_wp2
              go_roundw
              case measure => simp [intOf]; omega
              case rel => exact ⟨k + 1, ov, xv, by omega, by go_num, rfl, rfl, HF0, HF1, HF2, HF3⟩
      · obtain rfl : k = acts.length := by omega
        have HM := Lib.hid (show mayM acts = if o0 = true then 62 else if x0 = true then 1 else 0 by
          have h1 := HL.out
          rw [List.take_length] at h1
          unfold mayM
          rw [if_neg (by rw [h1]; simp; omega), HO0.out, HX0.out, List.take_length])
        clear HO0 HX0 HL
        cases o0
        · cases x0
          · go_wp2
            refine bodyPost_ret (results_tmp rfl _ _ _) rfl ⟨?_, HO.out⟩
            rw [HM.out]; rfl
          · go_wp2
            refine bodyPost_ret (results_tmp rfl _ _ _) rfl ⟨?_, HO.out⟩
            rw [HM.out]; rfl
        · go_wp2
          refine bodyPost_ret (results_tmp rfl _ _ _) rfl ⟨?_, HO.out⟩
          rw [HM.out]; rfl
end Go.Proofs.Ytompelilflckkaa
