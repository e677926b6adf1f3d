import Derived.Test.YtlkfkdcdokinpaaQg
namespace Go.Proofs.Ytlkfkdcdokinpaa
open Go.RowKit Go.Fl

/-- A slice told to the caller: fresh, of these numbers. -/
def FreshI (w w' : World) (v : Value) (xs : List Int) : Prop := Sl w' 2 1 v xs.length (ints xs) ∧ (∀ g, v.ownBlock = some g → w.heap.size ≤ g)
theorem come_all (cap bytes : Int) : ∀ (line held : List Item), (come cap bytes held line).2.1 ++ (come cap bytes held line).2.2 = held ++ line
  | [], held => by simp [come]
  | x :: line, held => by
    rw [come]
    split
    · show (come cap bytes (held ++ [x]) line).2.1 ++ (come cap bytes (held ++ [x]) line).2.2 = _
      rw [come_all cap bytes line (held ++ [x])]; simp
    · rfl
theorem come_len (cap bytes : Int) : ∀ (line held : List Item), (come cap bytes held line).2.2.length ≤ line.length
  | [], held => by simp [come]
  | x :: line, held => by
    rw [come]
    split
    · have := come_len cap bytes line (held ++ [x]); simp; omega
    · simp

theorem QStep.mono {w w' : World} {q : Nat} {S T : List Nat} {cap bytes : Int} {held line : List Item} (h : QStep w w' q S cap bytes held line) (hS : ∀ g ∈ S, g ∈ T) : QStep w w' q T cap bytes held line := by
  obtain ⟨S', h1, h2, h3⟩ := h
  exact ⟨S', h1, h2.mono hS, fun g hg => (h3 g hg).imp (hS g) id⟩
theorem QStep.trans {w w1 w2 : World} {q : Nat} {S T : List Nat} {cap bytes : Int} {held line : List Item} (ho : Only S w w1) (hT : ∀ g ∈ T, g ∈ S ∨ w.heap.size ≤ g) (h : QStep w1 w2 q T cap bytes held line) : QStep w w2 q S cap bytes held line := by
  obtain ⟨S', h1, h2, h3⟩ := h
  refine ⟨S', h1, ho.trans' h2 hT, fun g hg => ?_⟩
  rcases h3 g hg with h | h
  · exact hT g h
  · exact .inr (Nat.le_trans ho.size h)
theorem QStep.only {w w1 w2 : World} {q : Nat} {S : List Nat} {cap bytes : Int} {held line : List Item} (h : QStep w w1 q S cap bytes held line) (ho : Only [] w1 w2) : QStep w w2 q S cap bytes held line := by
  obtain ⟨S', h1, h2, h3⟩ := h
  exact ⟨S', h1.only ho (by simp), h2.trans' ho (by simp), h3⟩
theorem QOk.is {w : World} {q : Nat} {cap bytes : Int} {held line : List Item} {l lv : Value} {f mb : Nat} {ks : List Int} (h : QOk w q cap bytes held line l lv f mb ks) : QIs w q (qblocks q mb l lv) cap bytes held line :=
  ⟨l, lv, f, mb, ks, h, fun _ hg => hg⟩

theorem enter_q {q : Nat} {cap bytes : Int} {held line : List Item} {l lv : Value} {f mb : Nat} {ks : List Int} (w : World) (h : QOk w q cap bytes held line l lv f mb ks) :
    Calls Try.prog 28 #[.pointer (some ⟨q, 0, none⟩)] w fun e w' => ∃ v, e = .returned v ∧ FreshI w w' v (come cap bytes held line).1 ∧ QStep w w' q (qblocks q mb l lv) cap bytes (come cap bytes held line).2.1 (come cap bytes held line).2.2 ∧ Only (q :: l.ownBlock.toList) w w' := by
  refine (enter_ok w h.B h.R h.S h.sep h.okh h.okl (by have := h.lenl; omega)).mono ?_
  rintro e w' ⟨v, rfl, l', lv', f', hE⟩
  have hmq : mb ≠ q := h.M.not_cells h.B
  have hml := imap_ring h.M h.R
  refine ⟨v, rfl, ⟨hE.O, hE.fresh⟩, ⟨qblocks q mb l' lv', ⟨l', lv', f', mb, ks, ⟨hE.okh, hE.okl, h.cap0, h.byt0, ?_, hE.B, hE.R, hE.S, ?_, ?_, ?_⟩, fun g hg => hg⟩, ?_, ?_⟩, hE.only⟩
  · exact Nat.le_trans (come_len ..) h.lenl
  · intro g hg hg'
    rw [hE.same] at hg'
    rcases hE.ren with h1 | h1
    · exact h.sep g (h1 ▸ hg) hg'
    · have := h1 g hg; have := h.S.lt g hg'; omega
  · exact h.M.only hE.only (fun hh => by
      rcases List.mem_cons.1 hh with hh | hh
      · exact hmq hh
      · exact hml (by simpa using hh))
  · rw [come_all]; exact h.ids
  · exact hE.only.mono (fun g hg => by
      rw [mem_q']
      rcases List.mem_cons.1 hg with hg | hg
      · exact .inl hg
      · exact .inr (.inr (.inl (by simpa using hg))))
  · intro g hg
    rw [mem_q'] at hg ⊢
    rcases hg with hg | hg | hg | hg
    · exact .inl (.inl hg)
    · exact .inl (.inr (.inl hg))
    · rcases hE.ren with h1 | h1
      · exact .inl (.inr (.inr (.inl (h1 ▸ hg))))
      · exact .inr (h1 g hg)
    · exact .inl (.inr (.inr (.inr (hE.same ▸ hg))))

theorem put_ok {q : Nat} {cap bytes : Int} {held line : List Item} {S : List Nat} (id size : Int) (w : World) (h : QIs w q S cap bytes held line) :
    Calls Try.prog 8 #[.pointer (some ⟨q, 0, none⟩), .int .i64 id, .int .i64 size] w fun e w' => e = .returned (bi (putM cap bytes held line id size).1) ∧
      QStep w w' q S cap bytes (putM cap bytes held line id size).2.1 (putM cap bytes held line id size).2.2 := by
  obtain ⟨l, lv, f, mb, ks, h, hS⟩ := h
  by_cases hc : size < 0 ∨ (¬ size < 0 ∧ bytes < size) ∨ (¬ size < 0 ∧ ¬ bytes < size ∧ ks.contains id = true) ∨ (¬ size < 0 ∧ ¬ bytes < size ∧ ks.contains id = false ∧ 1024 ≤ line.length)
  · refine (put_err id size w h hc).mono ?_
    rintro e w' ⟨rfl, ho⟩
    refine ⟨rfl, (?_ : QStep _ _ _ _ _ _ _ _).mono hS⟩
    have hcon := perm_contains h.ids id
    have : (putM cap bytes held line id size).2 = (held, line) := by
      unfold putM
      rw [← hcon]
      rcases hc with h1 | ⟨h1, h2⟩ | ⟨h1, h2, h3⟩ | ⟨h1, h2, h3, h4⟩
      · rw [if_pos h1]
      · rw [if_neg h1, if_pos h2]
      · rw [if_neg h1, if_neg h2, if_pos h3]
      · rw [if_neg h1, if_neg h2, if_neg (by rw [h3]; simp), if_pos h4]
    rw [this]
    exact h.is.same ho
  · simp only [not_or, not_and] at hc
    obtain ⟨h1, h2, h3, h4⟩ := hc
    have h3' : ks.contains id = false := by simpa using h3 h1 (h2 h1)
    refine (put_go id size w h h1 (h2 h1) h3' (h4 h1 (h2 h1) h3')).mono ?_
    rintro e w' ⟨rfl, ho⟩
    exact ⟨rfl, ho.mono hS⟩

/-- What goes out: what is out, what is left. -/
def takeL (most byt : Int) : List Item → List Item → List Item × List Item
  | out, [] => (out, [])
  | out, x :: held => if (out.length : Int) < most ∧ (out = [] ∨ sum out + x.2 ≤ byt) then takeL most byt (out ++ [x]) held else (out, x :: held)
def takeM (cap bytes : Int) (held line : List Item) (most byt : Int) : (List Item × List Int) × List Item × List Item :=
  (((takeL most byt [] held).1, (come cap bytes (takeL most byt [] held).2 line).1), (come cap bytes (takeL most byt [] held).2 line).2)

theorem QOk.pop {w w2 w3 : World} {q : Nat} {cap bytes : Int} {x : Item} {held line : List Item} {l lv : Value} {f f' mb : Nat} {ks : List Int} (h : QOk w q cap bytes (x :: held) line l lv f mb ks)
    (hB2 : QB w2 q cap bytes (sum held) l (f' : Nat) held.length lv (.map (some mb))) (hR2 : RingIs w2 l f' held.length held) (hS2 : Sl w2 38 2 lv line.length (cells line)) (hM : IMap w3 mb .i64 (setM (ks.erase x.1))) (ho3 : Only [mb] w2 w3) :
    QOk w3 q cap bytes held line l lv f' mb (ks.erase x.1) := by
  have hmq : mb ≠ q := h.M.not_cells h.B
  have hml := imap_ring h.M h.R
  have hmlv := imap_sl h.M h.S
  have hx := (h.okh.sized x (List.mem_cons_self ..)).1
  refine ⟨⟨?_, h.okh.cap1, ?_, h.okh.byt1, fun y hy => h.okh.sized y (List.mem_cons_of_mem _ hy)⟩, h.okl, h.cap0, h.byt0, h.lenl, hB2.only ho3 (by simp [Ne.symm hmq]), hR2.only ho3 (fun g hg hh => hml (by simp at hh; rw [hg, hh])), hS2.only ho3 (fun g hg hh => hmlv (by simp at hh; rw [hg, hh])), h.sep, hM, ?_⟩
  · have := h.okh.len; simp at this; omega
  · have := h.okh.byt; rw [sum_cons] at this; omega
  · have := h.ids.erase x.1
    rw [show idsOf (x :: held ++ line) = x.1 :: idsOf (held ++ line) from rfl, List.erase_cons_head] at this
    exact this
end Go.Proofs.Ytlkfkdcdokinpaa
