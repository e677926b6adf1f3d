/-
  Clock: the order of two timers; the library's keys of numbers.
-/
import Derived.Test.YtjnhplgdbdneiaaDb
set_option linter.unusedSimpArgs false
set_option linter.unusedVariables false
namespace Go.Proofs.Ytjnhplgdbdneiaa
open Go.RowKit Go.Fl

def ordI (x y : Tm) : Int := orI (cmpI x.2 y.2) (cmpI x.1 y.1)
theorem ordI_lt (x y : Tm) : decide (ordI x y < 0) = tlt x y := by
  unfold ordI orI cmpI tlt
  refine decide_eq_decide.2 ?_
  repeat' split
  all_goals omega
/-- Two numbers that lie in a block of their own. -/
def Two (w : World) (v : Value) (a b : Int) : Prop := ∃ g, v = .slice (some ⟨g, 0, none⟩) 2 2 ∧ g < w.heap.size ∧ w.cell? ⟨g, 0, none⟩ = some (iv a) ∧ w.cell? ⟨g, 1, none⟩ = some (iv b)
theorem Two.only0 {w w' : World} {v : Value} {a b : Int} (h : Two w v a b) (ho : Only [] w w') : Two w' v a b := by
  obtain ⟨g, e, hg, h1, h2⟩ := h
  exact ⟨g, e, Nat.lt_of_lt_of_le hg ho.size, (ho.cell (p := ⟨g, 0, none⟩) hg (by simp)).trans h1, (ho.cell (p := ⟨g, 1, none⟩) hg (by simp)).trans h2⟩
set_option maxRecDepth 100000 in
set_option maxHeartbeats 3200000 in
theorem order33 (w : World) (x y : Tm) (hx : x.2 ≤ 9218868437227405312) (hy : y.2 ≤ 9218868437227405312) : Calls Try.prog 33 #[.agg #[iv x.1, fv x.2], .agg #[iv y.1, fv y.2]] w fun e w' => e = .returned (iv (ordI x y)) ∧ Only [] w w' := by
  obtain ⟨a, b⟩ := x
  obtain ⟨c, d⟩ := y
  have HX := Lib.hid hx
  have HY := Lib.hid hy
  clear hx hy
  obtain ⟨z, hz⟩ : ∃ z, ordI (a, b) (c, d) = z := ⟨_, rfl⟩
  rw [hz]
  have HZ := Lib.hid hz
  clear hz
  have HO := Lib.hid (show Only [] w ((w.alloc (.cells #[iv a, fv b] 70)).alloc (.cells #[iv c, fv d] 70)) from ((Only.refl _ w).alloc _).alloc _)
  have HB1 := Lib.hid (show Blk ((w.alloc (.cells #[iv a, fv b] 70)).alloc (.cells #[iv c, fv d] 70)) w.heap.size 70 #[iv a, fv b] from (Blk.new _ _ _).alloc _)
  have HB2 := Lib.hid (show Blk ((w.alloc (.cells #[iv a, fv b] 70)).alloc (.cells #[iv c, fv d] 70)) (w.heap.size + 1) 70 #[iv c, fv d] by have := Blk.new (w.alloc (.cells #[iv a, fv b] 70)) 70 #[iv c, fv d]; simpa using this)
  go_enter Try.func33, Try.ntmps33
  go_wp2
  generalize ((w.alloc (.cells #[iv a, fv b] 70)).alloc (.cells #[iv c, fv d] 70)) = w1 at *
  refine Lex.wp_region_each (by kernel_rfl) [[], [0], [], [2], [1, 3], [], [5], [], [7], [6, 8], [4, 9], [10], [11]] (by kernel_rfl) (by rfl) (fun a b => Only [] a b) (Only.refl _) (fun _ _ _ => Only.trans)
    (fun q v w0 => match q with
      | 0 => v = .pointer (some ⟨w.heap.size, 1, none⟩)
      | 1 => v = fv b
      | 2 => v = .pointer (some ⟨w.heap.size + 1, 1, none⟩)
      | 3 => v = fv d
      | 4 => v = iv (cmpI b d)
      | 5 => v = .pointer (some ⟨w.heap.size, 0, none⟩)
      | 6 => v = iv a
      | 7 => v = .pointer (some ⟨w.heap.size + 1, 0, none⟩)
      | 8 => v = iv c
      | 9 => v = iv (cmpI a c)
      | 10 => Two w0 v (cmpI b d) (cmpI a c)
      | 11 => v = iv z
      | _ => v = iv z) ?_ ?_ ?_
  · intro i v w8 w9 h ho
    match i, h with
    | 0, h => exact h
    | 1, h => exact h
    | 2, h => exact h
    | 3, h => exact h
    | 4, h => exact h
    | 5, h => exact h
    | 6, h => exact h
    | 7, h => exact h
    | 8, h => exact h
    | 9, h => exact h
    | 10, h => exact h.only0 ho
    | 11, h => exact h
    | n + 12, h => exact h
  · intro j o ho w8 hR
    have HR := Lib.hid hR
    clear hR
    rcases j with _ | _ | _ | _ | _ | _ | _ | _ | _ | _ | _ | _ | _ | j
    · injection ho with ho
      subst ho
      show wpList _ _ _ _ _ _
      go_wp2
      exact ⟨by first | rfl | simp, Only.refl _ _, rfl⟩
    · injection ho with ho
      subst ho
      intro v hv
      obtain rfl : v = _ := hv
      simp only [Lex.dstOf, List.getElem?_cons_zero, List.getElem?_cons_succ, Option.bind_some]
      have hb := (HB1.out.only ((Only.refl [] w1).drew.trans HR.out) (by simp))
      have x0 := hb.cell 0
      have x1 := hb.cell 1
      have xf0 := hb.frozen 0
      have xf1 := hb.frozen 1
      have xl := hb.lt
      simp at x0 x1
      clear hb
      show wpList _ _ _ _ _ _
      go_wp2
      exact ⟨by first | rfl | simp, Only.refl _ _, rfl⟩
    · injection ho with ho
      subst ho
      show wpList _ _ _ _ _ _
      go_wp2
      exact ⟨by first | rfl | simp, Only.refl _ _, rfl⟩
    · injection ho with ho
      subst ho
      intro v hv
      obtain rfl : v = _ := hv
      simp only [Lex.dstOf, List.getElem?_cons_zero, List.getElem?_cons_succ, Option.bind_some]
      have hb := (HB2.out.only ((Only.refl [] w1).drew.trans HR.out) (by simp))
      have x0 := hb.cell 0
      have x1 := hb.cell 1
      have xf0 := hb.frozen 0
      have xf1 := hb.frozen 1
      have xl := hb.lt
      simp at x0 x1
      clear hb
      show wpList _ _ _ _ _ _
      go_wp2
      exact ⟨by first | rfl | simp, Only.refl _ _, rfl⟩
    · injection ho with ho
      subst ho
      intro v hv
      obtain rfl : v = _ := hv
      intro v hv
      obtain rfl : v = _ := hv
      simp only [Lex.dstOf, List.getElem?_cons_zero, List.getElem?_cons_succ, Option.bind_some]
      have HQ := Lib.hid (cmp48 w8 b d HX.out HY.out)
      show wpList _ _ _ _ _ _
      go_wp2_with fail
      refine HQ.out.mono ?_
      clear HQ
      rintro e w9 ⟨rfl, ho⟩
      go_wp2
      first | exact ⟨rfl, ho, rfl⟩ | exact ⟨rfl, ho ▸ Only.refl _ _, rfl⟩
    · injection ho with ho
      subst ho
      show wpList _ _ _ _ _ _
      go_wp2
      exact ⟨by first | rfl | simp, Only.refl _ _, rfl⟩
    · injection ho with ho
      subst ho
      intro v hv
      obtain rfl : v = _ := hv
      simp only [Lex.dstOf, List.getElem?_cons_zero, List.getElem?_cons_succ, Option.bind_some]
      have hb := (HB1.out.only ((Only.refl [] w1).drew.trans HR.out) (by simp))
      have x0 := hb.cell 0
      have x1 := hb.cell 1
      have xf0 := hb.frozen 0
      have xf1 := hb.frozen 1
      have xl := hb.lt
      simp at x0 x1
      clear hb
      show wpList _ _ _ _ _ _
      go_wp2
      exact ⟨by first | rfl | simp, Only.refl _ _, rfl⟩
    · injection ho with ho
      subst ho
      show wpList _ _ _ _ _ _
      go_wp2
      exact ⟨by first | rfl | simp, Only.refl _ _, rfl⟩
    · injection ho with ho
      subst ho
      intro v hv
      obtain rfl : v = _ := hv
      simp only [Lex.dstOf, List.getElem?_cons_zero, List.getElem?_cons_succ, Option.bind_some]
      have hb := (HB2.out.only ((Only.refl [] w1).drew.trans HR.out) (by simp))
      have x0 := hb.cell 0
      have x1 := hb.cell 1
      have xf0 := hb.frozen 0
      have xf1 := hb.frozen 1
      have xl := hb.lt
      simp at x0 x1
      clear hb
      show wpList _ _ _ _ _ _
      go_wp2
      exact ⟨by first | rfl | simp, Only.refl _ _, rfl⟩
    · injection ho with ho
      subst ho
      intro v hv
      obtain rfl : v = _ := hv
      intro v hv
      obtain rfl : v = _ := hv
      simp only [Lex.dstOf, List.getElem?_cons_zero, List.getElem?_cons_succ, Option.bind_some]
      have HQ := Lib.hid (cmp49 w8 a c)
      show wpList _ _ _ _ _ _
      go_wp2_with fail
      refine HQ.out.mono ?_
      clear HQ
      rintro e w9 ⟨rfl, ho⟩
      go_wp2
      first | exact ⟨rfl, ho, rfl⟩ | exact ⟨rfl, ho ▸ Only.refl _ _, rfl⟩
    · injection ho with ho
      subst ho
      intro v hv
      obtain rfl : v = _ := hv
      intro v hv
      obtain rfl : v = _ := hv
      simp only [Lex.dstOf, List.getElem?_cons_zero, List.getElem?_cons_succ, Option.bind_some]
      show wpList _ _ _ _ _ _
      go_wp2
      have hb := Blk.new w8 3 #[iv (cmpI b d), iv (cmpI a c)]
      have y0 : (w8.alloc (.cells #[iv (cmpI b d), iv (cmpI a c)] 3)).cell? ⟨w8.heap.size, 0, none⟩ = some (iv (cmpI b d)) := hb.cell 0
      have y1 : (w8.alloc (.cells #[iv (cmpI b d), iv (cmpI a c)] 3)).cell? ⟨w8.heap.size, 1, none⟩ = some (iv (cmpI a c)) := hb.cell 1
      exact ⟨⟨w8.heap.size, rfl, by simp, y0, y1⟩, (Only.refl _ _).alloc _, rfl⟩
    · injection ho with ho
      subst ho
      intro v hv
      simp only [Lex.dstOf, List.getElem?_cons_zero, List.getElem?_cons_succ, Option.bind_some]
      obtain ⟨g, rfl, hg, q0, q1⟩ := hv
      have HQ := Lib.hid (or47 w8 g _ _ q0 q1)
      rw [show orI (cmpI b d) (cmpI a c) = z from HZ.out] at HQ
      show wpList _ _ _ _ _ _
      go_wp2_with fail
      refine HQ.out.mono ?_
      clear HQ
      rintro e w9 ⟨rfl, ho⟩
      go_wp2
      first | exact ⟨rfl, ho, rfl⟩ | exact ⟨rfl, ho ▸ Only.refl _ _, rfl⟩
    · injection ho with ho
      subst ho
      intro v hv
      obtain rfl : v = _ := hv
      simp only [Lex.dstOf, List.getElem?_cons_zero, List.getElem?_cons_succ, Option.bind_some]
      show wpList _ _ _ _ _ _
      go_wp2
      exact ⟨by first | rfl | simp, Only.refl _ _, rfl⟩
    · cases ho
  intro w8 hR
  show ∀ v0, _ → ∀ v1, _ → ∀ v2, _ → ∀ v3, _ → ∀ v4, _ → ∀ v5, _ → ∀ v6, _ → ∀ v7, _ → ∀ v8, _ → ∀ v9, _ → ∀ v10, _ → ∀ v11, _ → ∀ v12, _ → Exit.then _ _ _ _ _
  intro v0 _ v1 _ v2 _ v3 _ v4 _ v5 _ v6 _ v7 _ v8 _ v9 _ v10 _ v11 _ v12 h12
  simp only [Lex.dstOf, List.getElem?_cons_zero, List.getElem?_cons_succ, Option.bind_some]
  obtain rfl : v12 = _ := h12
  simp only [Act.put, List.setIfInBounds_toArray, List.set_cons_succ, List.set_cons_zero]
  have HO8 := Lib.hid (HO.out.trans ((Only.refl [] w1).drew.trans hR))
  clear hR
  go_wp2
  exact bodyPost_ret (results_tmp rfl _ _ _) rfl ⟨rfl, HO8.out⟩
end Go.Proofs.Ytjnhplgdbdneiaa
