import Derived.Test.YtlkfkdcdokinpaaQk
namespace Go.Proofs.Ytlkfkdcdokinpaa
open Go.RowKit Go.Fl

/-- Ids that follow one another. -/
def Run : Int → List Item → Prop
  | _, [] => True
  | n, x :: l => x.1 = n ∧ Run (n + 1) l
theorem Run.append : ∀ {n : Int} {a b : List Item}, Run n (a ++ b) ↔ Run n a ∧ Run (n + a.length) b
  | n, [], b => by simp [Run]
  | n, x :: a, b => by
    show (x.1 = n ∧ Run (n + 1) (a ++ b)) ↔ (x.1 = n ∧ Run (n + 1) a) ∧ _
    rw [Run.append (a := a)]
    have e : n + 1 + (a.length : Int) = n + ((x :: a).length : Int) := by simp; omega
    rw [e, and_assoc]
theorem Run.lt : ∀ {n : Int} {a : List Item}, Run n a → ∀ k ∈ idsOf a, n ≤ k ∧ k < n + a.length
  | n, [], _, k, hk => by simp [idsOf] at hk
  | n, x :: a, h, k, hk => by
    rcases List.mem_cons.1 hk with hk | hk
    · have h1 := h.1; subst h1; subst hk; simp; omega
    · have := Run.lt h.2 k hk; simp; omega
theorem Run.at_ : ∀ {n : Int} {a : List Item} {k : Nat} {x : Item}, Run n a → a[k]? = some x → x.1 = n + k
  | n, y :: a, 0, x, h, hk => by simp at hk; subst hk; simpa using h.1
  | n, y :: a, k + 1, x, h, hk => by
    have := Run.at_ (k := k) (x := x) h.2 (by simpa using hk)
    omega

structure Fair (cap bytes : Int) (held line : List Item) (put out : Int) : Prop where
  run : Run out (held ++ line)
  cnt : put - out = held.length + line.length
  fit : ∀ x ∈ held ++ line, 0 ≤ x.2 ∧ x.2 ≤ bytes
  head : ∀ x l, line = x :: l → hasRoom cap bytes held x.2 = false

theorem fair_put {cap bytes : Int} {held line : List Item} {put out : Int} (size : Int) (h : Fair cap bytes held line put out) :
    ((putM cap bytes held line put size).1.2 = 0 ∧ Fair cap bytes (putM cap bytes held line put size).2.1 (putM cap bytes held line put size).2.2 (put + 1) out) ∨
    ((putM cap bytes held line put size).1.2 ≠ 0 ∧ Fair cap bytes (putM cap bytes held line put size).2.1 (putM cap bytes held line put size).2.2 put out) := by
  have hnew : ∀ (h1 : ¬ size < 0) (hb : ¬ bytes < size), Run out (held ++ line ++ [(put, size)]) ∧ ∀ x ∈ held ++ line ++ [(put, size)], 0 ≤ x.2 ∧ x.2 ≤ bytes := fun h1 hb => by
    refine ⟨Run.append.2 ⟨h.run, ?_, trivial⟩, fun x hx => ?_⟩
    · have := h.cnt; simp; omega
    · rcases List.mem_append.1 hx with hx | hx
      · exact h.fit x hx
      · simp at hx; subst hx; simp; omega
  unfold putM
  by_cases h1 : size < 0
  · rw [if_pos h1]; exact .inr ⟨by simp, h⟩
  · rw [if_neg h1]
    by_cases h2 : bytes < size
    · rw [if_pos h2]; exact .inr ⟨by simp, h⟩
    · rw [if_neg h2]
      by_cases h3 : (idsOf (held ++ line)).contains put = true
      · rw [if_pos h3]; exact .inr ⟨by simp, h⟩
      · rw [if_neg h3]
        by_cases h4 : 1024 ≤ line.length
        · rw [if_pos h4]; exact .inr ⟨by simp, h⟩
        · rw [if_neg h4]
          have hn := hnew h1 h2
          have hc := h.cnt
          by_cases h5 : (line.isEmpty && hasRoom cap bytes held size) = true
          · rw [if_pos h5]
            simp only [Bool.and_eq_true, List.isEmpty_iff] at h5
            obtain ⟨rfl, h5⟩ := h5
            refine .inl ⟨rfl, by simpa using hn.1, ?_, by simpa using hn.2, fun x l hx => by simp at hx⟩
            simp at hc ⊢; omega
          · rw [if_neg h5]
            refine .inl ⟨rfl, by simpa using hn.1, by simp; omega, by simpa using hn.2, fun x l hx => ?_⟩
            cases line with
            | nil =>
              simp at hx
              obtain ⟨rfl, _⟩ := hx
              simpa using h5
            | cons y line =>
              simp at hx
              obtain ⟨rfl, _⟩ := hx
              exact h.head _ _ rfl

theorem takeL_all (most byt : Int) : ∀ (b a : List Item), (takeL most byt a b).1 ++ (takeL most byt a b).2 = a ++ b
  | [], a => by simp [takeL]
  | x :: b, a => by
    rw [takeL]
    split
    · rw [takeL_all most byt b]; simp
    · rfl
theorem takeL_len (most byt : Int) : ∀ (b a : List Item), (a.length : Int) ≤ max most 0 → ((takeL most byt a b).1.length : Int) ≤ max most 0
  | [], a, h => by simpa [takeL] using h
  | x :: b, a, h => by
    rw [takeL]
    split
    · rename_i hc; exact takeL_len most byt b _ (by simp; omega)
    · exact h
theorem takeL_sum (most byt : Int) : ∀ (b a : List Item), (a.length ≤ 1 ∨ sum a ≤ byt) → ((takeL most byt a b).1.length ≤ 1 ∨ sum (takeL most byt a b).1 ≤ byt)
  | [], a, h => by simpa [takeL] using h
  | x :: b, a, h => by
    rw [takeL]
    split
    · rename_i hc
      refine takeL_sum most byt b _ ?_
      rcases hc.2 with rfl | hc
      · exact .inl (by simp)
      · exact .inr (by rw [sum_append]; exact hc)
    · exact h
theorem come_head (cap bytes : Int) : ∀ (line held : List Item) (x : Item) (l : List Item), (come cap bytes held line).2.2 = x :: l → hasRoom cap bytes (come cap bytes held line).2.1 x.2 = false
  | [], held, x, l, h => by simp [come] at h
  | y :: line, held, x, l, h => by
    rw [come] at h ⊢
    split at h
    · rename_i hr; rw [if_pos hr]; exact come_head cap bytes line _ x l h
    · rename_i hr
      rw [if_neg hr]
      simp at h
      obtain ⟨rfl, _⟩ := h
      simpa using hr

theorem fair_take {cap bytes : Int} {held line : List Item} {put out : Int} (most byt : Int) (h : Fair cap bytes held line put out) :
    Run out (takeM cap bytes held line most byt).1.1 ∧ Fair cap bytes (takeM cap bytes held line most byt).2.1 (takeM cap bytes held line most byt).2.2 put (out + (takeM cap bytes held line most byt).1.1.length) ∧
    ((takeM cap bytes held line most byt).1.1.length : Int) ≤ max most 0 ∧ (∀ x ∈ (takeM cap bytes held line most byt).1.1, 0 ≤ x.2 ∧ x.2 ≤ bytes) ∧ ((takeM cap bytes held line most byt).1.1.length ≤ 1 ∨ sum (takeM cap bytes held line most byt).1.1 ≤ byt) := by
  have h1 := takeL_all most byt held []
  have h2 := come_all cap bytes line (takeL most byt [] held).2
  simp only [List.nil_append] at h1
  have h3 : held ++ line = (takeL most byt [] held).1 ++ ((come cap bytes (takeL most byt [] held).2 line).2.1 ++ (come cap bytes (takeL most byt [] held).2 line).2.2) := by
    rw [h2, ← List.append_assoc, h1]
  have hr := h.run
  rw [h3, Run.append] at hr
  have hc := h.cnt
  have hl := congrArg List.length h3
  simp only [List.length_append] at hl
  unfold takeM
  refine ⟨hr.1, ⟨hr.2, ?_, fun x hx => h.fit x (by rw [h3]; exact List.mem_append_right _ hx), fun x l hx => come_head cap bytes line _ x l hx⟩, takeL_len most byt held [] (by simp; omega), fun x hx => h.fit x (by rw [h3]; exact List.mem_append_left _ hx), takeL_sum most byt held [] (.inl (by simp))⟩
  dsimp only
  omega

theorem fair_end {cap bytes : Int} {held line l : List Item} {x : Item} {put out : Int} (h : Fair cap bytes held line put out) (h0 : 1 ≤ cap) (hl : line = x :: l) : 0 < held.length ∧ ¬ ((held.length : Int) < cap ∧ sum held + x.2 ≤ bytes) := by
  have hh := h.head x l hl
  have hx := h.fit x (by simp [hl])
  simp only [hasRoom, Bool.and_eq_false_iff, decide_eq_false_iff_not] at hh
  refine ⟨?_, by omega⟩
  cases held with
  | nil => simp [sum] at hh; omega
  | cons y held => simp
end Go.Proofs.Ytlkfkdcdokinpaa
