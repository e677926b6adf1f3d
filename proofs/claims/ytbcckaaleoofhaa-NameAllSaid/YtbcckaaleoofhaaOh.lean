/-
  NameAll, plain: what Order answers: each name once, in order. No program in sight.
-/
import Derived.Test.YtbcckaaleoofhaaOa
namespace Go.Fl
open Go.Op

/-- A list of texts in order, each once. -/
def Up : List (List UInt8) → Prop
  | [] => True
  | [_] => True
  | a :: b :: l => bytesLess a b = true ∧ Up (b :: l)
/-- A text put where it belongs, if it is not there. -/
def putIn (x : List UInt8) : List (List UInt8) → List (List UInt8)
  | [] => [x]
  | a :: l => if bytesLess a x then a :: putIn x l else if a = x then a :: l else x :: a :: l
/-- What the document's Order makes. -/
def ordM (may : List UInt8 → Bool) (ss : List (List UInt8)) : List (List UInt8) := ss.foldl (fun l x => if may x then putIn x l else l) []
/-- Twins that stand side by side, struck. -/
def strike : List (List UInt8) → List (List UInt8)
  | [] => []
  | [a] => [a]
  | a :: b :: l => if a = b then strike (b :: l) else a :: strike (b :: l)

theorem less_trans : ∀ {a b c : List UInt8}, bytesLess a b = true → bytesLess b c = true → bytesLess a c = true
  | _, [], _, h, _ => by cases ‹List UInt8› <;> simp [bytesLess] at h
  | [], _ :: _, [], _, h => by simp [bytesLess] at h
  | [], _ :: _, _ :: _, _, _ => rfl
  | _ :: _, _ :: _, [], _, h => by simp [bytesLess] at h
  | x :: a, y :: b, z :: c, h1, h2 => by
    simp only [bytesLess, Bool.or_eq_true, decide_eq_true_eq, Bool.and_eq_true, beq_iff_eq] at h1 h2 ⊢
    rcases h1 with h1 | ⟨rfl, h1⟩
    · rcases h2 with h2 | ⟨rfl, h2⟩
      · exact .inl (UInt8.lt_trans h1 h2)
      · exact .inl h1
    · rcases h2 with h2 | ⟨rfl, h2⟩
      · exact .inl h2
      · exact .inr ⟨rfl, less_trans h1 h2⟩
theorem u8_tri (x y : UInt8) : x < y ∨ x = y ∨ y < x := by
  rcases Nat.lt_trichotomy x.toNat y.toNat with h | h | h
  · exact .inl (UInt8.lt_iff_toNat_lt.2 h)
  · exact .inr (.inl (UInt8.toNat_inj.1 h))
  · exact .inr (.inr (UInt8.lt_iff_toNat_lt.2 h))
theorem less_tri : ∀ (a b : List UInt8), bytesLess a b = true ∨ a = b ∨ bytesLess b a = true
  | [], [] => .inr (.inl rfl)
  | [], _ :: _ => .inl rfl
  | _ :: _, [] => .inr (.inr rfl)
  | x :: a, y :: b => by
    simp only [bytesLess, Bool.or_eq_true, decide_eq_true_eq, Bool.and_eq_true, beq_iff_eq]
    rcases u8_tri x y with h | h | h
    · exact .inl (.inl h)
    · subst h
      rcases less_tri a b with h | h | h
      · exact .inl (.inr ⟨rfl, h⟩)
      · exact .inr (.inl (by rw [h]))
      · exact .inr (.inr (.inr ⟨rfl, h⟩))
    · exact .inr (.inr (.inl h))
theorem putIn_mem (x y : List UInt8) : ∀ l, y ∈ putIn x l ↔ y = x ∨ y ∈ l
  | [] => by simp [putIn]
  | a :: l => by
    rw [putIn]
    split
    · rw [List.mem_cons, putIn_mem x y l, List.mem_cons]; constructor <;> (intro h; rcases h with h | h | h <;> simp [h])
    · split
      · rename_i e; subst e; simp
      · simp
theorem Up.tail {a : List UInt8} {l : List (List UInt8)} (h : Up (a :: l)) : Up l := by
  cases l with
  | nil => trivial
  | cons b l => exact h.2
theorem Up.lt {a b : List UInt8} : ∀ {l : List (List UInt8)}, Up (a :: l) → b ∈ l → bytesLess a b = true
  | [], _, h => by simp at h
  | c :: l, h, hb => by
    rcases List.mem_cons.1 hb with rfl | hb
    · exact h.1
    · exact less_trans h.1 (Up.lt h.2 hb)
theorem Up.cons {a : List UInt8} {l : List (List UInt8)} (h : Up l) (hl : ∀ b ∈ l, bytesLess a b = true) : Up (a :: l) := by
  cases l with
  | nil => trivial
  | cons b l => exact ⟨hl b (List.mem_cons_self ..), h⟩
theorem putIn_up (x : List UInt8) : ∀ l, Up l → Up (putIn x l)
  | [], _ => trivial
  | a :: l, h => by
    rw [putIn]
    split
    · rename_i hax
      refine Up.cons (putIn_up x l h.tail) fun b hb => ?_
      rcases (putIn_mem x b l).1 hb with rfl | hb
      · exact hax
      · exact h.lt hb
    · split
      · exact h
      · rename_i h1 h2
        refine Up.cons h fun b hb => ?_
        have hxa : bytesLess x a = true := by
          rcases less_tri a x with h3 | h3 | h3
          · exact absurd h3 h1
          · exact absurd h3 h2
          · exact h3
        rcases List.mem_cons.1 hb with rfl | hb
        · exact hxa
        · exact less_trans hxa (h.lt hb)
/-- Two such lists of the same texts are one. -/
theorem Up.ext : ∀ {l m : List (List UInt8)}, Up l → Up m → (∀ x, x ∈ l ↔ x ∈ m) → l = m
  | [], [], _, _, _ => rfl
  | [], b :: m, _, _, h => by have := (h b).2 (List.mem_cons_self ..); simp at this
  | a :: l, [], _, _, h => by have := (h a).1 (List.mem_cons_self ..); simp at this
  | a :: l, b :: m, hl, hm, h => by
    have hab : a = b := by
      rcases List.mem_cons.1 ((h a).1 (List.mem_cons_self ..)) with h1 | h1
      · exact h1
      · rcases List.mem_cons.1 ((h b).2 (List.mem_cons_self ..)) with h2 | h2
        · exact h2.symm
        · have h3 := less_trans (hm.lt h1) (hl.lt h2)
          rw [bytesLess_irrefl] at h3; cases h3
    subst hab
    congr 1
    refine Up.ext hl.tail hm.tail fun x => ?_
    have hx := h x
    rw [List.mem_cons, List.mem_cons] at hx
    constructor
    · intro hx1
      rcases hx.1 (.inr hx1) with rfl | h1
      · have := hl.lt hx1; rw [bytesLess_irrefl] at this; cases this
      · exact h1
    · intro hx1
      rcases hx.2 (.inr hx1) with rfl | h1
      · have := hm.lt hx1; rw [bytesLess_irrefl] at this; cases this
      · exact h1
theorem ordM_up (may : List UInt8 → Bool) : ∀ (ss l : List (List UInt8)), Up l → Up (ss.foldl (fun l x => if may x then putIn x l else l) l)
  | [], _, h => h
  | x :: ss, l, h => by
    rw [List.foldl_cons]
    refine ordM_up may ss _ ?_
    split
    · exact putIn_up x l h
    · exact h
theorem ordM_mem (may : List UInt8 → Bool) (y : List UInt8) : ∀ (ss l : List (List UInt8)), y ∈ ss.foldl (fun l x => if may x then putIn x l else l) l ↔ y ∈ l ∨ (y ∈ ss ∧ may y = true)
  | [], l => by simp
  | x :: ss, l => by
    rw [List.foldl_cons, ordM_mem may y ss]
    by_cases hx : may x = true
    · rw [if_pos hx, putIn_mem]
      constructor
      · rintro ((rfl | h) | h)
        · exact .inr ⟨List.mem_cons_self .., hx⟩
        · exact .inl h
        · exact .inr ⟨List.mem_cons_of_mem _ h.1, h.2⟩
      · rintro (h | ⟨h, hy⟩)
        · exact .inl (.inr h)
        · rcases List.mem_cons.1 h with rfl | h
          · exact .inl (.inl rfl)
          · exact .inr ⟨h, hy⟩
    · rw [if_neg hx]
      constructor
      · rintro (h | h)
        · exact .inl h
        · exact .inr ⟨List.mem_cons_of_mem _ h.1, h.2⟩
      · rintro (h | ⟨h, hy⟩)
        · exact .inl h
        · rcases List.mem_cons.1 h with rfl | h
          · exact absurd hy hx
          · exact .inr ⟨h, hy⟩
theorem less_iff : ∀ (x y : List UInt8), bytesLess x y = true ↔ x < y
  | x, [] => by cases x <;> simp [bytesLess]
  | [], _ :: _ => by simp [bytesLess]
  | a :: x, b :: y => by
    rw [List.cons_lt_cons_iff, ← less_iff x y]
    simp [bytesLess]
theorem le_iff (x y : List UInt8) : x ≤ y ↔ bytesLess y x = false := by
  rw [← Bool.not_eq_true, less_iff]
  exact Iff.rfl

/-- In order, twins allowed. -/
def UpEq : List (List UInt8) → Prop
  | [] => True
  | [_] => True
  | a :: b :: l => bytesLess b a = false ∧ UpEq (b :: l)
theorem strike_mem (y : List UInt8) : ∀ l, y ∈ strike l ↔ y ∈ l
  | [] => by simp [strike]
  | [a] => by simp [strike]
  | a :: b :: l => by
    rw [strike]
    split
    · rename_i e; subst e; rw [strike_mem y (a :: l)]; simp
    · rw [List.mem_cons, strike_mem y (b :: l), List.mem_cons (a := y) (b := a)]
theorem strike_head : ∀ (a : List UInt8) (l : List (List UInt8)), ∃ m, strike (a :: l) = a :: m
  | a, [] => ⟨[], rfl⟩
  | a, b :: l => by
    rw [strike]
    split
    · rename_i e; subst e; exact strike_head a l
    · exact ⟨_, rfl⟩
theorem strike_up : ∀ l, UpEq l → Up (strike l)
  | [], _ => trivial
  | [_], _ => trivial
  | a :: b :: l, h => by
    rw [strike]
    split
    · exact strike_up (b :: l) h.2
    · rename_i hne
      have ih := strike_up (b :: l) h.2
      obtain ⟨m, hm⟩ := strike_head b l
      rw [hm] at ih ⊢
      refine ⟨?_, ih⟩
      rcases less_tri a b with h1 | h1 | h1
      · exact h1
      · exact absurd h1 hne
      · rw [h.1] at h1; cases h1
theorem upEq_of_pairwise : ∀ l : List (List UInt8), l.Pairwise (fun x y => x ≤ y) → UpEq l
  | [], _ => trivial
  | [_], _ => trivial
  | a :: b :: l, h => by
    rw [List.pairwise_cons] at h
    exact ⟨(le_iff a b).1 (h.1 b (List.mem_cons_self ..)), upEq_of_pairwise (b :: l) h.2⟩
end Go.Fl
