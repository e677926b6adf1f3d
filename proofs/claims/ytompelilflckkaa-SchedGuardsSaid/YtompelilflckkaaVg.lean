/-
  SchedGuards: for its row.
-/
import Derived.Test.YtompelilflckkaaVf
import Derived.Test.YtompelilflckkaaArgs3
import Derived.Test.YtompelilflckkaaRows
namespace Go.Proofs.Ytompelilflckkaa
open Go.RowKit Go.Fl

theorem guards_row (W : World) (v : Value) (l : List Int) (h : Row (fun s => .int .i64 s) W v l) (_hw : ∀ i (h : i < l.length), (Lit.int .i64 l[i]).wf = true) (b : Bool) :
    Calls Try.prog 8 #[v, .bool b] W fun e W' => e = .returned (.bool true) ∧ Only [] W W' := guards_ok b h
end Go.Proofs.Ytompelilflckkaa
