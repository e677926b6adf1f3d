/-
  The scheduler: which acts may be.
-/
import Derived.Test.YtompelilflckkaaSg
namespace Go.Proofs.Ytompelilflckkaa
open Go.RowKit Go.Fl

/-- Of what numbers? -/
def btw (n most : Int) : Bool := decide (0 ≤ n) && decide (n < most)
set_option maxRecDepth 100000 in
theorem between_ok (n m : Int) (w : World) : Calls Try.prog 35 #[iv n, iv m] w fun e w' => e = .returned (.bool (btw n m)) ∧ w' = w := by
  unfold btw
  by_cases h : 0 ≤ n
  · go_enter Try.func35, Try.ntmps35
    go_wp2
    go_ret
    exact ⟨by simp [h], rfl⟩
  · have h2 : n < 0 := by omega
    rw [decide_eq_false h, Bool.false_and]
    go_enter Try.func35, Try.ntmps35
    go_wp2
    go_ret
    exact ⟨rfl, rfl⟩
/-- A field's number is looked at, and wiped. -/
theorem use_ok {w : World} {gp k gq : Nat} {n most : Int} {ok : Bool} (hp : w.cell? ⟨gp, k, none⟩ = some (iv n)) (hq : w.cell? ⟨gq, 0, none⟩ = some (.bool ok)) (hfp : w.frozen? ⟨gp, k, none⟩ = false) (hfq : w.frozen? ⟨gq, 0, none⟩ = false) (hne : gq ≠ gp) :
    Calls Try.prog 34 #[.pointer (some ⟨gp, k, none⟩), iv most, .pointer (some ⟨gq, 0, none⟩)] w fun e w' => e = .returned (.tuple #[]) ∧ w' = (w.setCell ⟨gq, 0, none⟩ (.bool (ok && btw n most))).setCell ⟨gp, k, none⟩ (iv 0) := by
  cases ok with
  | true =>
    have HB := Lib.hid (between_ok n most w)
    go_enter Try.func34, Try.ntmps34
    go_wp2_with fail
    refine HB.out.mono ?_
    clear HB
    rintro e w1 ⟨rfl, rfl⟩
    go_wp2
    go_end0
    exact ⟨rfl, rfl⟩
  | false =>
    go_enter Try.func34, Try.ntmps34
    go_wp2
    go_end0
    exact ⟨rfl, rfl⟩
end Go.Proofs.Ytompelilflckkaa
