/-
  A struct whose fields are integers, by one closed check.
-/
import Derived.Test.YtompelilflckkaaArgs
namespace Go.Fl
open Go.RowKit Go.ChangeShapes Go.WideShapes Go.Deep
section
variable {H : Type} {enc : TypeId × Value → H} {P : Program} {w : World}
/-- An integer's field. -/
def intField (P : Program) (f : Field) : Bool := match P.underlying f.type with | some (.int .i64) => true | _ => false
theorem intCells_fields {e : TypeId} {fs : Array Field} (he : P.underlying e = some (.struct fs)) (hf : oneCellFields P fs = true) (hi : fs.all (intField P) = true) : IntCells enc P w e fs.size :=
  intCells_struct he hf fun j f hj => by
    have := (Array.all_eq_true_iff_forall_mem.1 hi) f (Array.mem_of_getElem? hj)
    unfold intField at this
    split at this
    · assumption
    · cases this
end
end Go.Fl
