/-
  QueueFair at arguments opened: it answers true and leaves all that was there.
-/
import Derived.Test.YtlkfkdcdokinpaaQn
namespace Go.Proofs.Ytlkfkdcdokinpaa
open Go.RowKit Go.Fl
theorem fair_row (w : World) (cap bytes : Int) (vs : Value) (n : Nat) (f : Nat → Nat → Int) (hs : Recs w 1 vs n f) (vt : Value) (m : Nat) (g : Nat → Nat → Int) (ht : Recs w 4 vt m g) :
    Calls Try.prog 3 #[.int .i64 cap, .int .i64 bytes, vs, vt] w fun e w' => e = .returned (.bool true) ∧ Only [] w w' := fair_walk cap bytes vs vt n m f g w hs ht
end Go.Proofs.Ytlkfkdcdokinpaa
