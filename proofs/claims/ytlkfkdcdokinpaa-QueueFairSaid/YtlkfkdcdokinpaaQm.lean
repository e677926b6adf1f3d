import Derived.Test.YtlkfkdcdokinpaaQl
import Derived.Test.YtlkfkdcdokinpaaArgs
import Derived.Test.YtlkfkdcdokinpaaLex4
namespace Go.Proofs.Ytlkfkdcdokinpaa
open Go.RowKit Go.Fl

theorem r3_27 : Lex.regionOK Try.prog (Lex.regionOf Try.f3 27) = true := by kernel_rfl
theorem r3_14 : Lex.regionOK Try.prog (Lex.regionOf Try.f3 14) = true := by kernel_rfl
theorem QStep.facts {w wi : World} {q : Nat} {S : List Nat} {cap bytes : Int} {held line : List Item} (h : QStep w wi q S cap bytes held line) : Held cap bytes held ∧ 1 ≤ cap ∧ q < wi.heap.size := by
  obtain ⟨S', ⟨l, lv, f, mb, ks, h1, _⟩, _⟩ := h
  exact ⟨h1.okh, h1.cap0, h1.B.lt⟩
theorem sum_take_le {B : Int} (hB : 0 ≤ B) : ∀ (l : List Item) (j : Nat), (∀ x ∈ l, 0 ≤ x.2 ∧ x.2 ≤ B) → 0 ≤ sum (l.take j) ∧ sum (l.take j) ≤ j * B
  | [], j, _ => by
    have := Int.mul_nonneg (Int.natCast_nonneg j) hB
    simpa [sum] using this
  | x :: l, 0, _ => by simp [sum]
  | x :: l, j + 1, h => by
    have h1 := h x (List.mem_cons_self ..)
    have h2 := sum_take_le hB l j fun y hy => h y (List.mem_cons_of_mem _ hy)
    rw [List.take_succ_cons, sum_cons]
    have e : ((j + 1 : Nat) : Int) * B = j * B + B := by rw [Int.natCast_add, Int.add_mul]; simp
    rw [e]; omega

/-- Behind some rounds of QueueFair. -/
structure FairR (w : World) (q : Nat) (cap bytes : Int) (p o i : Value) (wr : World) (put out : Int) (k : Nat) (held line : List Item) : Prop where
  p : p = .int .i64 put
  o : o = .int .i64 out
  i : i = .int .i64 k
  k400 : k ≤ 400
  putk : put ≤ k
  out0 : 0 ≤ out
  Q : QStep w wr q [] cap bytes held line
  F : Fair cap bytes held line put out
def FairE (w : World) (q : Nat) (cap bytes : Int) (p o i : Value) (wr : World) : Prop := ∃ put out k held line, FairR w q cap bytes p o i wr put out k held line
end Go.Proofs.Ytlkfkdcdokinpaa
