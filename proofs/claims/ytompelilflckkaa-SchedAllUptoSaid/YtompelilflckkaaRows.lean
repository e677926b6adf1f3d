/-
  No cell of these rows narrows 'for every input' (looked for: loops, veiled, ifaces, maps, wideKeys, modest, calm, conditions, laid).
  DERIVED. THE GIVEN ROWS OF THIS SEAT. 6 by the template 'for every input the law returns true; each argument reads behind the call as it read before'; 0 by the template 'total and deterministic' (their statements: YtompelilflckkaaTotals.lean).
  GIVEN WITH THE SEED: the statements are not yours to turn. If you find one false, say at which input.
  Laid BY PROGRAM, IN A SANDBOX (cutbox-rows.mjs): the forced cells as the released guide's own fill.sh prints them over the translation 549b5500020e740f… (all of the seat's roots in one cut). By AI agents, Wed Nov 11 2026. No macro, syntax, notation, axiom, sorry.
-/
import Derived.Test.YtompelilflckkaaChecked
import GoSem.Claim
import GoSem.ClaimJoined
import GoSem.ClaimMapViews
import Derived.JoinedTies
import Derived.KernelRfl
namespace Go.Proofs.Ytompelilflckkaa
/- THE CELL 'sum', in the pinned program and in every row, IS THE sha256 OF THE DUMP (.gsa) THAT YtompelilflckkaaProg.lean LOADS. Nothing in Lean hashes anything: it is a label: what it is worth is what the hold of that sum in a sandbox is worth. -/
noncomputable def Try.pinned : Pinned := { name := "ytompelilflckkaa", sum := "549b5500020e740fc09826ef19da103a40f8e8185a3f58f559c3715e1ff3dbb5", checked := Try.checked }
namespace Rows
def none {H : Type} : Left H := { results := [], args := [] }

/-- 'flumelaw20.SchedAll': WHATEVER THE INPUT: true; the input reads as it did. -/
def schedAllSpec : ChangeSpec := { name := "schedAll", fn := fun _ => fun
  | [d1, d2, d3, d4] => { results := [.lit (.bool true)], args := [d1, d2, d3, d4] }
  | _ => none }
def schedAllRow : OpenClaim := { program := "ytompelilflckkaa", sum := "549b5500020e740fc09826ef19da103a40f8e8185a3f58f559c3715e1ff3dbb5", func := "flume/flumelaw20.SchedAll", spec := "schedAll", unfollowed := true, recurses := true, apart := false }
def SchedAllSaid : Prop := schedAllRow.holds Try.pinned (OpenSpec.ofChange schedAllSpec)

/-- ITS FALSE NEIGHBOUR: 'it returns false'. Refute it at one input. -/
def schedAllWrong : ChangeSpec := { name := "schedAll", fn := fun _ => fun
  | [d1, d2, d3, d4] => { results := [.lit (.bool false)], args := [d1, d2, d3, d4] }
  | _ => none }
def SchedAllWrongFalsely : Prop := schedAllRow.holds Try.pinned (OpenSpec.ofChange schedAllWrong)

/-- 'flumelaw20.SchedSplit': WHATEVER THE INPUT: true; the input reads as it did. -/
def schedSplitSpec : ChangeSpec := { name := "schedSplit", fn := fun _ => fun
  | [d1, d2, d3, d4, d5] => { results := [.lit (.bool true)], args := [d1, d2, d3, d4, d5] }
  | _ => none }
def schedSplitRow : OpenClaim := { program := "ytompelilflckkaa", sum := "549b5500020e740fc09826ef19da103a40f8e8185a3f58f559c3715e1ff3dbb5", func := "flume/flumelaw20.SchedSplit", spec := "schedSplit", unfollowed := true, recurses := true, apart := false }
def SchedSplitSaid : Prop := schedSplitRow.holds Try.pinned (OpenSpec.ofChange schedSplitSpec)

/-- ITS FALSE NEIGHBOUR: 'it returns false'. Refute it at one input. -/
def schedSplitWrong : ChangeSpec := { name := "schedSplit", fn := fun _ => fun
  | [d1, d2, d3, d4, d5] => { results := [.lit (.bool false)], args := [d1, d2, d3, d4, d5] }
  | _ => none }
def SchedSplitWrongFalsely : Prop := schedSplitRow.holds Try.pinned (OpenSpec.ofChange schedSplitWrong)

/-- 'flumelaw20.SchedLocks': WHATEVER THE INPUT: true; the input reads as it did. -/
def schedLocksSpec : ChangeSpec := { name := "schedLocks", fn := fun _ => fun
  | [d1, d2, d3, d4] => { results := [.lit (.bool true)], args := [d1, d2, d3, d4] }
  | _ => none }
def schedLocksRow : OpenClaim := { program := "ytompelilflckkaa", sum := "549b5500020e740fc09826ef19da103a40f8e8185a3f58f559c3715e1ff3dbb5", func := "flume/flumelaw20.SchedLocks", spec := "schedLocks", unfollowed := true, recurses := true, apart := false }
def SchedLocksSaid : Prop := schedLocksRow.holds Try.pinned (OpenSpec.ofChange schedLocksSpec)

/-- ITS FALSE NEIGHBOUR: 'it returns false'. Refute it at one input. -/
def schedLocksWrong : ChangeSpec := { name := "schedLocks", fn := fun _ => fun
  | [d1, d2, d3, d4] => { results := [.lit (.bool false)], args := [d1, d2, d3, d4] }
  | _ => none }
def SchedLocksWrongFalsely : Prop := schedLocksRow.holds Try.pinned (OpenSpec.ofChange schedLocksWrong)

/-- 'flumelaw20.SchedQueues': WHATEVER THE INPUT: true; the input reads as it did. -/
def schedQueuesSpec : ChangeSpec := { name := "schedQueues", fn := fun _ => fun
  | [d1, d2, d3] => { results := [.lit (.bool true)], args := [d1, d2, d3] }
  | _ => none }
def schedQueuesRow : OpenClaim := { program := "ytompelilflckkaa", sum := "549b5500020e740fc09826ef19da103a40f8e8185a3f58f559c3715e1ff3dbb5", func := "flume/flumelaw20.SchedQueues", spec := "schedQueues", unfollowed := true, recurses := true, apart := false }
def SchedQueuesSaid : Prop := schedQueuesRow.holds Try.pinned (OpenSpec.ofChange schedQueuesSpec)

/-- ITS FALSE NEIGHBOUR: 'it returns false'. Refute it at one input. -/
def schedQueuesWrong : ChangeSpec := { name := "schedQueues", fn := fun _ => fun
  | [d1, d2, d3] => { results := [.lit (.bool false)], args := [d1, d2, d3] }
  | _ => none }
def SchedQueuesWrongFalsely : Prop := schedQueuesRow.holds Try.pinned (OpenSpec.ofChange schedQueuesWrong)

/-- 'flumelaw20.SchedConds': WHATEVER THE INPUT: true; the input reads as it did. -/
def schedCondsSpec : ChangeSpec := { name := "schedConds", fn := fun _ => fun
  | [d1, d2, d3] => { results := [.lit (.bool true)], args := [d1, d2, d3] }
  | _ => none }
def schedCondsRow : OpenClaim := { program := "ytompelilflckkaa", sum := "549b5500020e740fc09826ef19da103a40f8e8185a3f58f559c3715e1ff3dbb5", func := "flume/flumelaw20.SchedConds", spec := "schedConds", unfollowed := true, recurses := true, apart := false }
def SchedCondsSaid : Prop := schedCondsRow.holds Try.pinned (OpenSpec.ofChange schedCondsSpec)

/-- ITS FALSE NEIGHBOUR: 'it returns false'. Refute it at one input. -/
def schedCondsWrong : ChangeSpec := { name := "schedConds", fn := fun _ => fun
  | [d1, d2, d3] => { results := [.lit (.bool false)], args := [d1, d2, d3] }
  | _ => none }
def SchedCondsWrongFalsely : Prop := schedCondsRow.holds Try.pinned (OpenSpec.ofChange schedCondsWrong)

/-- 'flumelaw20.SchedGuards': WHATEVER THE INPUT: true; the input reads as it did. -/
def schedGuardsSpec : ChangeSpec := { name := "schedGuards", fn := fun _ => fun
  | [d1, d2] => { results := [.lit (.bool true)], args := [d1, d2] }
  | _ => none }
def schedGuardsRow : OpenClaim := { program := "ytompelilflckkaa", sum := "549b5500020e740fc09826ef19da103a40f8e8185a3f58f559c3715e1ff3dbb5", func := "flume/flumelaw20.SchedGuards", spec := "schedGuards", unfollowed := true, recurses := true, apart := false }
def SchedGuardsSaid : Prop := schedGuardsRow.holds Try.pinned (OpenSpec.ofChange schedGuardsSpec)

/-- ITS FALSE NEIGHBOUR: 'it returns false'. Refute it at one input. -/
def schedGuardsWrong : ChangeSpec := { name := "schedGuards", fn := fun _ => fun
  | [d1, d2] => { results := [.lit (.bool false)], args := [d1, d2] }
  | _ => none }
def SchedGuardsWrongFalsely : Prop := schedGuardsRow.holds Try.pinned (OpenSpec.ofChange schedGuardsWrong)

/- THE SECOND FORM. 'bulk': how many values and letters a reading holds, each counted each time it is reached (what is shared counts as often as it is met; a slice's spare places count too). A statement '..UptoSaid' is the law's where the arguments, and the package variables that the reading takes, are together of bulk at most 1048576: NARROWER than '..Said'. Prove '..Said' where nothing that the law and all that it calls make is longer than what came in: it says more and counts as full. Else prove '..UptoSaid'. A law counts once. -/
mutual
def uptoBulk {H : Type} : DataW H → Nat
  | .lit (.string bytes) => bytes.length + 1
  | .lit _ => 1
  | .nil => 1
  | .ptr d => uptoBulk d + 1
  | .slice elems spare => uptoBulkAll elems + uptoBulkAll spare + 1
  | .agg parts => uptoBulkAll parts + 1
  | .iface _ d => uptoBulk d + 1
  | .map entries => uptoBulkEntries entries + 1
  | .held _ => 1
def uptoBulkAll {H : Type} : List (DataW H) → Nat
  | [] => 0
  | d :: r => uptoBulk d + uptoBulkAll r
def uptoBulkEntries {H : Type} : List (Lit × DataW H) → Nat
  | [] => 0
  | x :: r => uptoBulkEntry x + uptoBulkEntries r
def uptoBulkEntry {H : Type} : Lit × DataW H → Nat
  | (.string bytes, d) => bytes.length + uptoBulk d + 1
  | (_, d) => uptoBulk d + 1
 end
def uptoSmall : (H : Type) → List (DataW H) → Bool := fun _ ds => decide (uptoBulkAll ds ≤ 1048576)
def OpenSpec.upto (s : _root_.Go.ChangeSpec) : _root_.Go.OpenSpec := { _root_.Go.OpenSpec.ofChange s with cond := some uptoSmall }

/-- 'flumelaw20.SchedAll', WHERE WHAT IT READS IS OF BULK AT MOST 1048576: true; the input reads as it did. -/
def schedAllUptoRow : OpenClaim := { program := "ytompelilflckkaa", sum := "549b5500020e740fc09826ef19da103a40f8e8185a3f58f559c3715e1ff3dbb5", func := "flume/flumelaw20.SchedAll", spec := "schedAll", unfollowed := true, recurses := true, apart := false, narrowed := true }
def SchedAllUptoSaid : Prop := schedAllUptoRow.holds Try.pinned (OpenSpec.upto schedAllSpec)

/-- 'flumelaw20.SchedSplit', WHERE WHAT IT READS IS OF BULK AT MOST 1048576: true; the input reads as it did. -/
def schedSplitUptoRow : OpenClaim := { program := "ytompelilflckkaa", sum := "549b5500020e740fc09826ef19da103a40f8e8185a3f58f559c3715e1ff3dbb5", func := "flume/flumelaw20.SchedSplit", spec := "schedSplit", unfollowed := true, recurses := true, apart := false, narrowed := true }
def SchedSplitUptoSaid : Prop := schedSplitUptoRow.holds Try.pinned (OpenSpec.upto schedSplitSpec)

/-- 'flumelaw20.SchedLocks', WHERE WHAT IT READS IS OF BULK AT MOST 1048576: true; the input reads as it did. -/
def schedLocksUptoRow : OpenClaim := { program := "ytompelilflckkaa", sum := "549b5500020e740fc09826ef19da103a40f8e8185a3f58f559c3715e1ff3dbb5", func := "flume/flumelaw20.SchedLocks", spec := "schedLocks", unfollowed := true, recurses := true, apart := false, narrowed := true }
def SchedLocksUptoSaid : Prop := schedLocksUptoRow.holds Try.pinned (OpenSpec.upto schedLocksSpec)

/-- 'flumelaw20.SchedQueues', WHERE WHAT IT READS IS OF BULK AT MOST 1048576: true; the input reads as it did. -/
def schedQueuesUptoRow : OpenClaim := { program := "ytompelilflckkaa", sum := "549b5500020e740fc09826ef19da103a40f8e8185a3f58f559c3715e1ff3dbb5", func := "flume/flumelaw20.SchedQueues", spec := "schedQueues", unfollowed := true, recurses := true, apart := false, narrowed := true }
def SchedQueuesUptoSaid : Prop := schedQueuesUptoRow.holds Try.pinned (OpenSpec.upto schedQueuesSpec)

/-- 'flumelaw20.SchedConds', WHERE WHAT IT READS IS OF BULK AT MOST 1048576: true; the input reads as it did. -/
def schedCondsUptoRow : OpenClaim := { program := "ytompelilflckkaa", sum := "549b5500020e740fc09826ef19da103a40f8e8185a3f58f559c3715e1ff3dbb5", func := "flume/flumelaw20.SchedConds", spec := "schedConds", unfollowed := true, recurses := true, apart := false, narrowed := true }
def SchedCondsUptoSaid : Prop := schedCondsUptoRow.holds Try.pinned (OpenSpec.upto schedCondsSpec)

/-- 'flumelaw20.SchedGuards', WHERE WHAT IT READS IS OF BULK AT MOST 1048576: true; the input reads as it did. -/
def schedGuardsUptoRow : OpenClaim := { program := "ytompelilflckkaa", sum := "549b5500020e740fc09826ef19da103a40f8e8185a3f58f559c3715e1ff3dbb5", func := "flume/flumelaw20.SchedGuards", spec := "schedGuards", unfollowed := true, recurses := true, apart := false, narrowed := true }
def SchedGuardsUptoSaid : Prop := schedGuardsUptoRow.holds Try.pinned (OpenSpec.upto schedGuardsSpec)

end Rows
end Go.Proofs.Ytompelilflckkaa
