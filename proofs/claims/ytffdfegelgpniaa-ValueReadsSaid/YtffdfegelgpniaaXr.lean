/-
  The answers' range.
-/
import Derived.Test.YtffdfegelgpniaaVx
set_option linter.unusedSimpArgs false
set_option linter.unusedVariables false
namespace Go.Proofs.Ytffdfegelgpniaa
open Go.RowKit Go.Fl

def Rng (c : Int) : Prop := -1 ≤ c ∧ c ≤ 1
theorem rng_cmpI (a b : Int) : Rng (cmpI a b) := by
  unfold Rng cmpI
  repeat' split
  all_goals omega
theorem rng_bytes : ∀ l m, Rng (Lib.compareBytes l m)
  | [], [] => by show Rng 0; unfold Rng; omega
  | [], _ :: _ => by show Rng (-1); unfold Rng; omega
  | _ :: _, [] => by show Rng 1; unfold Rng; omega
  | a :: l, b :: m => by
    rw [bytes_lex]
    split
    · exact rng_cmpI _ _
    · exact rng_bytes l m
mutual
theorem I.rng : ∀ (x y : I), Rng (x.cmp y) := fun x y => by
  by_cases hk : x.kind = y.kind
  · cases x with
    | list l =>
      cases y with
      | list m => exact cmps_rng l m
      | _ => exfalso; simp [I.kind] at hk; done
    | void => cases y <;> first | (exfalso; simp [I.kind] at hk; done) | exact rng_cmpI _ _
    | truth => cases y <;> first | (exfalso; simp [I.kind] at hk; done) | exact rng_cmpI _ _
    | whole => cases y <;> first | (exfalso; simp [I.kind] at hk; done) | exact rng_cmpI _ _
    | number => cases y <;> first | (exfalso; simp [I.kind] at hk; done) | exact rng_cmpI _ _
    | text => cases y <;> first | (exfalso; simp [I.kind] at hk; done) | exact rng_bytes _ _
  · rw [cmp_kind hk]
    exact rng_cmpI _ _
theorem cmps_rng : ∀ (l m : List I), Rng (cmps l m)
  | [], m => rng_cmpI _ _
  | a :: l, [] => by show Rng 1; unfold Rng; omega
  | a :: l, b :: m => by
    have h1 := I.rng a b
    have h2 := cmps_rng l m
    show Rng (if a.cmp b ≠ 0 then a.cmp b else cmps l m)
    split
    · exact h1
    · exact h2
end
theorem V.rng (a b : V) : Rng (a.cmp b) := by
  unfold V.cmp
  cases a.item <;> cases b.item
  · show Rng 0; unfold Rng; omega
  · show Rng 1; unfold Rng; omega
  · show Rng (-1); unfold Rng; omega
  · exact I.rng _ _
theorem wrap_neg {x : Int} (h : Rng x) : (-x != wrap64 (-x)) = false := by
  unfold Rng at h
  rw [bne_eq_false_iff_eq]
  unfold wrap64
  omega
end Go.Proofs.Ytffdfegelgpniaa
