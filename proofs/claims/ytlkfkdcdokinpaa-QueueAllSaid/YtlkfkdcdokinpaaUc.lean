/-
  Both queues, in one world, over blocks of their own.
-/
import Derived.Test.YtlkfkdcdokinpaaUb
import Derived.Test.YtlkfkdcdokinpaaRh
import Derived.Test.YtlkfkdcdokinpaaRk
import Derived.Test.YtlkfkdcdokinpaaQk
import Derived.Test.YtlkfkdcdokinpaaArgs
namespace Go.Proofs.Ytlkfkdcdokinpaa
open Go.RowKit Go.Fl

structure Bo (base : Nat) (w : World) (q r : Nat) (S T : List Nat) (cap bytes : Int) (held line held' line' : List Item) : Prop where
  Q : QIs w q S cap bytes held line
  R : RIs w r T cap bytes held' line'
  dis : ∀ g ∈ S, g ∉ T
  bs : ∀ g ∈ S, base ≤ g ∧ g < w.heap.size
  bt : ∀ g ∈ T, base ≤ g ∧ g < w.heap.size
theorem QOk.lt_ {w : World} {q : Nat} {cap bytes : Int} {held line : List Item} {l lv : Value} {f mb : Nat} {ks : List Int} (h : QOk w q cap bytes held line l lv f mb ks) : ∀ g ∈ qblocks q mb l lv, g < w.heap.size := by
  intro g hg
  rw [mem_q'] at hg
  rcases hg with rfl | rfl | hg | hg
  · exact h.B.lt
  · exact h.M.lt
  · exact h.R.lt g hg
  · exact h.S.lt g hg
theorem ROk.lt_ {w : World} {r : Nat} {cap bytes : Int} {held line : List Item} {iv lv : Value} (h : ROk w r cap bytes held line iv lv) : ∀ g ∈ rblocks r iv lv, g < w.heap.size := by
  intro g hg
  rw [mem_r'] at hg
  rcases hg with rfl | hg | hg
  · exact h.B.lt
  · exact h.I.lt g hg
  · exact h.L.lt g hg
section
variable {base : Nat} {w w' : World} {q r : Nat} {S T : List Nat} {cap bytes : Int} {h0 l0 h1 l1 h2 l2 : List Item}
theorem Bo.only (h : Bo base w q r S T cap bytes h0 l0 h1 l1) (ho : Only [] w w') : Bo base w' q r S T cap bytes h0 l0 h1 l1 :=
  ⟨h.Q.only ho (by simp), h.R.only ho (by simp), h.dis, fun g hg => ⟨(h.bs g hg).1, Nat.lt_of_lt_of_le (h.bs g hg).2 ho.size⟩, fun g hg => ⟨(h.bt g hg).1, Nat.lt_of_lt_of_le (h.bt g hg).2 ho.size⟩⟩
theorem Bo.stepQ (h : Bo base w q r S T cap bytes h0 l0 h1 l1) (hb : base ≤ w.heap.size) (hs : QStep w w' q S cap bytes h2 l2) : ∃ S', Bo base w' q r S' T cap bytes h2 l2 h1 l1 ∧ Only S w w' := by
  obtain ⟨S', ⟨l, lv, f, mb, ks, hok, hsub⟩, ho, hn⟩ := hs
  have hS : ∀ g ∈ qblocks q mb l lv, g ∈ S ∨ w.heap.size ≤ g := fun g hg => hn g (hsub g hg)
  refine ⟨qblocks q mb l lv, ⟨hok.is, h.R.only ho (fun g hg hh => h.dis g hh hg), fun g hg hh => ?_, fun g hg => ⟨?_, hok.lt_ g hg⟩, fun g hg => ⟨(h.bt g hg).1, Nat.lt_of_lt_of_le (h.bt g hg).2 ho.size⟩⟩, ho⟩
  · rcases hS g hg with h3 | h3
    · exact h.dis g h3 hh
    · have := (h.bt g hh).2; omega
  · rcases hS g hg with h3 | h3
    · exact (h.bs g h3).1
    · omega
theorem Bo.stepR (h : Bo base w q r S T cap bytes h0 l0 h1 l1) (hb : base ≤ w.heap.size) (hs : RStep w w' r T cap bytes h2 l2) : ∃ T', Bo base w' q r S T' cap bytes h0 l0 h2 l2 ∧ Only T w w' := by
  obtain ⟨T', ⟨iv, lv, hok, hsub⟩, ho, hn⟩ := hs
  have hT : ∀ g ∈ rblocks r iv lv, g ∈ T ∨ w.heap.size ≤ g := fun g hg => hn g (hsub g hg)
  refine ⟨rblocks r iv lv, ⟨h.Q.only ho (fun g hg hh => h.dis g hg hh), hok.is, fun g hg hh => ?_, fun g hg => ⟨(h.bs g hg).1, Nat.lt_of_lt_of_le (h.bs g hg).2 ho.size⟩, fun g hg => ⟨?_, hok.lt_ g hg⟩⟩, ho⟩
  · rcases hT g hh with h3 | h3
    · exact h.dis g hg h3
    · have := (h.bs g hg).2; omega
  · rcases hT g hg with h3 | h3
    · exact (h.bt g h3).1
    · omega
end
/-- Behind some rounds of QueueAll. -/
structure AllR (w : World) (q r : Nat) (cap bytes : Int) (wr : World) (S T : List Nat) (held line : List Item) : Prop where
  B : Bo w.heap.size wr q r S T cap bytes held line held line
  O : Only [] w wr
def AllE (w : World) (q r : Nat) (cap bytes : Int) (wr : World) : Prop := ∃ S T held line, AllR w q r cap bytes wr S T held line
/-- Behind the queue's half of a round. -/
structure HalfR (w : World) (q r : Nat) (cap bytes : Int) (wr : World) (S T : List Nat) (held line held' line' : List Item) : Prop where
  B : Bo w.heap.size wr q r S T cap bytes held line held' line'
  O : Only [] w wr
section
variable {w wr w1 : World} {q r : Nat} {cap bytes : Int} {S T : List Nat} {held line h2 l2 : List Item}
theorem AllR.only (h : AllR w q r cap bytes wr S T held line) (ho : Only [] wr w1) : AllR w q r cap bytes w1 S T held line := ⟨h.B.only ho, h.O.trans ho⟩
theorem HalfR.only {held' line' : List Item} (h : HalfR w q r cap bytes wr S T held line held' line') (ho : Only [] wr w1) : HalfR w q r cap bytes w1 S T held line held' line' := ⟨h.B.only ho, h.O.trans ho⟩
theorem AllR.half (h : AllR w q r cap bytes wr S T held line) (hs : QStep wr w1 q S cap bytes h2 l2) : ∃ S', HalfR w q r cap bytes w1 S' T h2 l2 held line ∧ Only S wr w1 := by
  obtain ⟨S', hB, ho⟩ := h.B.stepQ h.O.size hs
  exact ⟨S', ⟨hB, h.O.trans' ho (fun g hg => .inr (h.B.bs g hg).1)⟩, ho⟩
theorem HalfR.all (h : HalfR w q r cap bytes wr S T h2 l2 held line) (hs : RStep wr w1 r T cap bytes h2 l2) : ∃ T', AllR w q r cap bytes w1 S T' h2 l2 ∧ Only T wr w1 := by
  obtain ⟨T', hB, ho⟩ := h.B.stepR h.O.size hs
  exact ⟨T', ⟨hB, h.O.trans' ho (fun g hg => .inr (h.B.bt g hg).1)⟩, ho⟩
/-- What was told of a half stays as it is behind the other. -/
theorem HalfR.keep {held' line' : List Item} {e s n : Nat} {v : Value} {xs : List Value} {w0 : World} (h : HalfR w q r cap bytes wr S T held line held' line') (hv : Sl wr e s v n xs) (hf : ∀ g, v.ownBlock = some g → w0.heap.size ≤ g) (hT : ∀ g ∈ T, g < w0.heap.size) (ho : Only T wr w1) : Sl w1 e s v n xs :=
  hv.only ho (fun g hg hh => by have := hf g hg; have := hT g hh; omega)
end
theorem takeL_out (most byt : Int) : ∀ (held out : List Item), (takeL most byt out held).1.length ≤ out.length + held.length
  | [], out => by simp [takeL]
  | x :: held, out => by
    rw [takeL]
    split
    · have := takeL_out most byt held (out ++ [x]); simp at this ⊢; omega
    · simp
theorem come_out (cap bytes : Int) : ∀ (line held : List Item), (come cap bytes held line).1.length ≤ line.length
  | [], held => by simp [come]
  | x :: line, held => by
    rw [come]
    split
    · have := come_out cap bytes line (held ++ [x]); simp; omega
    · simp
theorem Bo.len {base : Nat} {w : World} {q r : Nat} {S T : List Nat} {cap bytes : Int} {h0 l0 h1 l1 : List Item} (h : Bo base w q r S T cap bytes h0 l0 h1 l1) : h0.length ≤ 1024 ∧ l0.length ≤ 1024 := by
  obtain ⟨l, lv, f, mb, ks, hok, _⟩ := h.Q
  exact ⟨by have := hok.okh.len; have := hok.okh.cap1; omega, hok.lenl⟩
theorem takeM_len {cap bytes : Int} {held line : List Item} (most byt : Int) (h : held.length ≤ 1024 ∧ line.length ≤ 1024) : (takeM cap bytes held line most byt).1.1.length ≤ 4096 ∧ (takeM cap bytes held line most byt).1.2.length ≤ 4096 := by
  have h1 := takeL_out most byt held []
  have h2 := come_out cap bytes line (takeL most byt [] held).2
  simp only [List.length_nil, Nat.zero_add] at h1
  exact ⟨show (takeL most byt [] held).1.length ≤ 4096 by omega, show (come cap bytes (takeL most byt [] held).2 line).1.length ≤ 4096 by omega⟩
theorem leaveM_len {cap bytes : Int} {held line : List Item} (id : Int) (h : held.length ≤ 1024 ∧ line.length ≤ 1024) : (leaveM cap bytes held line id).1.1.length ≤ 4096 := by
  unfold leaveM
  split
  · simp
  · rename_i i _
    have h2 := come_out cap bytes (line.eraseIdx i) held
    have h3 := List.length_eraseIdx_le line i
    show (come cap bytes held (line.eraseIdx i)).1.length ≤ 4096
    omega
/-- The start. -/
theorem all_start {w w1 w2 w3 : World} {q r : Nat} {cap bytes : Int} (ho : Only [] w w1) (hq : QStep w1 w2 q [] cap bytes [] []) (hr : RStep w2 w3 r [] cap bytes [] []) : AllE w q r cap bytes w3 := by
  obtain ⟨S', ⟨l, lv, f, mb, ks, hok, hsub⟩, ho2, hn⟩ := hq
  obtain ⟨T', ⟨iv, lv2, hok2, hsub2⟩, ho3, hn2⟩ := hr
  have hs1 := ho.size
  have hs2 := ho2.size
  have hs3 := ho3.size
  have hS : ∀ g ∈ qblocks q mb l lv, w1.heap.size ≤ g ∧ g < w2.heap.size := fun g hg => ⟨(hn g (hsub g hg)).resolve_left (by simp), hok.lt_ g hg⟩
  have hT : ∀ g ∈ rblocks r iv lv2, w2.heap.size ≤ g ∧ g < w3.heap.size := fun g hg => ⟨(hn2 g (hsub2 g hg)).resolve_left (by simp), hok2.lt_ g hg⟩
  exact ⟨_, _, [], [], ⟨hok.is.only ho3 (by simp), hok2.is, fun g hg hh => by have := (hS g hg).2; have := (hT g hh).1; omega, fun g hg => by have := hS g hg; omega, fun g hg => by have := hT g hg; omega⟩, (ho.trans ho2).trans ho3⟩
end Go.Proofs.Ytlkfkdcdokinpaa
