/-
  The disk: what a fault comes to.
-/
import Derived.Test.YthekilgolelomaaDd
set_option linter.unusedSimpArgs false
set_option linter.unusedVariables false
namespace Go.Proofs.Ythekilgolelomaa
open Go.RowKit Go.Fl

def befR (x : Flt) : Int := if x.2.1 = 1 then 20 else if x.2.1 = 2 then 21 else if x.2.1 = 3 then 22 else 0
def PD.bef (p : PD) (x : Flt) : PD := if x.2.1 = 3 then { p with up := false } else p
section
variable {w w' : World} {F : Nat → Prop} {d : Nat} {p : PD} {nb lb : Nat} {pv fv : Value}
set_option maxRecDepth 100000 in
set_option maxHeartbeats 1600000 in
theorem befall_ok (h : DM w F d p nb lb pv fv) (x : Flt) (hx : x.2.1 ≠ 4) : Calls Try.prog 34 #[cp d, fltV x] w fun e w' =>
    e = .returned (iv (befR x)) ∧ DM w' F d (p.bef x) nb lb pv fv ∧ Only [d] w w' := by
  obtain ⟨x1, x2, x3⟩ := x
  unfold fltV
  dsimp only
  have H := Lib.hid h
  have hb1 := h.blk.alloc (.cells #[iv x1, iv x2, iv x3] 83)
  have hr := Blk.new w 83 #[iv x1, iv x2, iv x3]
  have xl := hb1.lt
  have c1 := hr.cell 1
  have xf := hb1.frozen
  simp at c1
  have xd := hb1.cell 1
  simp [dcells] at xd
  have HO := Lib.hid (show Only [d] w (w.alloc (.cells #[iv x1, iv x2, iv x3] 83)) from (Only.refl _ _).alloc _)
  have HD := Lib.hid (h.only0 ((Only.refl [] w).alloc (.cells #[iv x1, iv x2, iv x3] 83)))
  have HD3 := Lib.hid (show DM ((w.alloc (.cells #[iv x1, iv x2, iv x3] 83)).setCell ⟨d, 1, none⟩ (.bool false)) F d { p with up := false } nb lb pv fv from
    h.nums (by have := hb1.set_ 1 (.bool false); simpa [dcells] using this) (((Only.refl [d] w).alloc _).setCell (.inl (by simp)) _) rfl rfl rfl rfl)
  have hx4 : (x2 == 4) = false := beq_eq_false_iff_ne.2 hx
  clear h hb1 hr hx
  unfold befR PD.bef
  by_cases h1 : x2 = 1
  · subst h1
    go_enter Try.func34, Try.ntmps34
    go_wp2
    refine bodyPost_ret (results_tmp rfl _ _ _) rfl ?_
    exact ⟨rfl, HD.out, HO.out⟩
  have k1 : (x2 == 1) = false := beq_eq_false_iff_ne.2 h1
  by_cases h2 : x2 = 2
  · subst h2
    clear h1
    go_enter Try.func34, Try.ntmps34
    go_wp2
    refine bodyPost_ret (results_tmp rfl _ _ _) rfl ?_
    exact ⟨rfl, HD.out, HO.out⟩
  have k2 : (x2 == 2) = false := beq_eq_false_iff_ne.2 h2
  by_cases h3 : x2 = 3
  · subst h3
    clear h1 h2
    go_enter Try.func34, Try.ntmps34
    go_wp2
    refine bodyPost_ret (results_tmp rfl _ _ _) rfl ?_
    exact ⟨rfl, HD3.out, HO.out.setCell (.inl (by simp)) _⟩
  have k3 : (x2 == 3) = false := beq_eq_false_iff_ne.2 h3
  simp only [h1, h2, h3, if_false]
  clear h1 h2 h3
  go_enter Try.func34, Try.ntmps34
  go_wp2
  refine bodyPost_ret (results_tmp rfl _ _ _) rfl ?_
  exact ⟨rfl, HD.out, HO.out⟩
end
end Go.Proofs.Ythekilgolelomaa
