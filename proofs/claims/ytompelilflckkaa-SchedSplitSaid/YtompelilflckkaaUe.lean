/-
  The law's begun in plain words.
-/
import Derived.Test.YtompelilflckkaaUb
namespace Go.Proofs.Ytompelilflckkaa
open Go.RowKit Go.Fl

def actsB : List (List A) := [[⟨13, 0, 0, 2⟩, ⟨12, 0, 0, 9⟩, ⟨8, 0, 0, 1⟩], [⟨7, 0, 0, 0⟩]]
def sB : S := all [] 99 (begin_ actsB 1)
theorem sB_trace : sB.trace.length = 3 := by kernel_rfl
theorem sB_7 : sB.regs 7 = 9 := by kernel_rfl
theorem sB_0 : sB.regs 0 = 1 := by kernel_rfl
theorem sB_how0 : how sB (sB.ts 0) = 1 := by kernel_rfl
theorem sB_how1 : how sB (sB.ts 1) = 7 := by kernel_rfl
theorem sB_n : sB.n = 2 := by kernel_rfl
theorem asked_B : askedM actsB 1 [] 99 = 0 := by kernel_rfl
def actsC : List (List A) := [[⟨11, 0, 0, 0⟩]]
theorem ready_C : ready (all [] 0 (begin_ actsC 1)) = [0] := by kernel_rfl
theorem asked_C : askedM actsC 1 [] 0 = 0 := by kernel_rfl
theorem may_nil : mayM [] = 0 := by kernel_rfl
end Go.Proofs.Ytompelilflckkaa
