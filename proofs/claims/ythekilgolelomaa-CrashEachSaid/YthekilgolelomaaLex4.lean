/-
  A region of a function, by its number: so that the closed check on it is done once, as a theorem of its own.
-/
import Derived.Test.YthekilgolelomaaLex3
set_option linter.unusedSimpArgs false
set_option linter.unusedVariables false
namespace Go.Lex
open Go

/-- The region of that number in a code. -/
def regionsIn : Code → Nat → Option (List Oper)
  | .region i ops _, k => if i = k then some ops.toList else none
  | .seq a b, k => (regionsIn a k).or (regionsIn b k)
  | .cond _ a b, k => (regionsIn a k).or (regionsIn b k)
  | .block _ b, k => regionsIn b k
  | .loop b, k => regionsIn b k
  | .rangeFunc _ _ a b, k => (regionsIn a k).or (regionsIn b k)
  | .scope b, k => regionsIn b k
  | _, _ => none
def regionOf (f : Func) (k : Nat) : List Oper := (f.body.bind fun c => regionsIn c k).getD []

theorem wp_region_at {P : Program} {fn : Func} {k id : Nat} {l : List Oper} {Q : Exit → Act → World → Prop} {a : Act} {w : World} (hm : P.follows .mixedOrders = true) (hB : regionOK P (regionOf fn k) = true) (hl : regionOf fn k = l)
    (h : wpList P l.toArray (SQ fun a w => plainAll P l a = true ∧ Q .normal a w) l a w.drew) : (Code.region id l.toArray true).wp P Q a w :=
  wp_region_text hm (hl ▸ hB) h
end Go.Lex
