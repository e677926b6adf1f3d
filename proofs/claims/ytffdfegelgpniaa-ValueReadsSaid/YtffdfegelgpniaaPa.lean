/-
  ValueParts: the plain law.
-/
import Derived.Test.YtffdfegelgpniaaKa
set_option linter.unusedSimpArgs false
set_option linter.unusedVariables false
namespace Go.Proofs.Ytffdfegelgpniaa
open Go.RowKit Go.Fl

/-- A value that is no list with values in it. -/
def V.flat : V → Bool
  | .mk k _ _ _ l => decide (k ≠ 6) || decide (l.length = 0)
/-- The keys of the values that may be, one behind another. -/
def V.kb (v : V) : List Nat := match v.item with | none => [] | some x => x.key
theorem kb_none {v : V} (h : v.item = none) : v.kb = [] := by unfold V.kb; rw [h]
theorem kb_some {v : V} {x : I} (h : v.item = some x) : v.kb = x.key := by unfold V.kb; rw [h]
def pkeys : List V → List Nat
  | [] => []
  | v :: l => v.kb ++ pkeys l
/-- The sum of sizes. -/
def psize : List V → Nat
  | [] => 0
  | v :: l => v.size + psize l
/-- All may be, and none is a list with values. -/
def pmay (l : List V) : Bool := l.all fun v => v.may && v.flat
theorem bad_room {k i : Int} {r : Nat} {t : ByteArray} {n : Nat} {a b : Int} (h : bad k i r t n a = false) (hb : 0 ≤ b) : bad k i r t n b = false := by
  unfold bad at h ⊢
  simp only [Bool.or_eq_false_iff] at h ⊢
  exact ⟨⟨⟨⟨decide_eq_false (by omega), h.1.1.1.2⟩, h.1.1.2⟩, h.1.2⟩, h.2⟩
theorem I.size_pos : ∀ (x : I), 1 ≤ x.size
  | .void => Nat.le_refl _
  | .truth _ => Nat.le_refl _
  | .whole _ => Nat.le_refl _
  | .number _ => Nat.le_refl _
  | .text t => by show 1 ≤ 1 + t.size; omega
  | .list l => by show 1 ≤ 1 + sizes l; omega
theorem take_flat {v : V} {x : I} (h : v.item = some x) (hf : v.flat = true) (nest : Nat) (hn : nest ≤ 7) (room : Int) (hr : (x.size : Int) ≤ room) : v.take nest room = (some x, room - x.size) := by
  have hp := I.size_pos x
  obtain ⟨k, i, r, t, l⟩ := v
  unfold V.item V.take at h
  unfold V.take
  by_cases hb : bad k i r t l.length (65536 - 1) = true
  · rw [if_pos hb] at h; cases h
  rw [if_neg hb] at h
  rw [if_neg (by rw [bad_room (by simpa using hb) (by omega)]; decide)]
  by_cases k1 : k = 1
  · rw [if_pos k1] at h ⊢; injection h with h; subst h; rfl
  rw [if_neg k1] at h ⊢
  by_cases k2 : k = 2
  · rw [if_pos k2] at h ⊢
    split at h
    · rename_i hi; rw [if_pos hi]; injection h with h; subst h; rfl
    · cases h
  rw [if_neg k2] at h ⊢
  by_cases k3 : k = 3
  · rw [if_pos k3] at h ⊢; injection h with h; subst h; rfl
  rw [if_neg k3] at h ⊢
  by_cases k4 : k = 4
  · rw [if_pos k4] at h ⊢; injection h with h; subst h; rfl
  rw [if_neg k4] at h ⊢
  by_cases k5 : k = 5
  · rw [if_pos k5] at h ⊢
    split at h
    · injection h with h
      subst h
      have e : ((I.text t).size : Int) = 1 + t.size := by show ((1 + t.size : Nat) : Int) = _; omega
      rw [if_pos (by omega), e]
      congr 1
      omega
    · cases h
  rw [if_neg k5] at h ⊢
  by_cases k6 : k = 6
  · rw [if_pos k6] at h ⊢
    have hl : l = [] := by
      unfold V.flat at hf
      simp [k6] at hf
      exact hf
    subst hl
    rw [if_neg (by omega)] at h
    rw [if_neg (by omega)]
    injection h with h
    subst h
    rfl
  rw [if_neg k6] at h
  cases h
theorem takes_flat : ∀ (l : List V) (nest : Nat) (room : Int), nest ≤ 7 → pmay l = true → (psize l : Int) ≤ room → ∃ xs, takes l nest room = (some xs, room - psize l) ∧ keys xs = pkeys l ∧ sizes xs = psize l
  | [], nest, room, _, _, _ => ⟨[], by simp [takes, psize], rfl, rfl⟩
  | v :: l, nest, room, hn, hm, hs => by
    unfold pmay at hm
    simp only [List.all_cons, Bool.and_eq_true] at hm
    obtain ⟨⟨h1, h2⟩, h3⟩ := hm
    unfold V.may at h1
    cases hx : v.item with
    | none => rw [hx] at h1; cases h1
    | some x =>
      have hz : v.size = x.size := by unfold V.size; rw [hx]
      simp only [psize] at hs
      have ht := take_flat hx h2 nest hn room (by omega)
      obtain ⟨xs, e1, e2, e3⟩ := takes_flat l nest (room - x.size) hn h3 (by omega)
      refine ⟨x :: xs, ?_, ?_, ?_⟩
      · simp only [takes, ht, e1, psize, Option.map_some]
        congr 1
        omega
      · simp only [keys, pkeys, kb_some hx, e2]
      · simp only [sizes, psize, e3, hz]
theorem list_parts (l : List V) (hm : pmay l = true) (hs : 1 + psize l ≤ 65536) : ∃ xs, (V.mk 6 0 0 ⟨#[]⟩ l).item = some (.list xs) ∧ keys xs = pkeys l ∧ sizes xs = psize l := by
  obtain ⟨xs, e1, e2, e3⟩ := takes_flat l 1 65535 (by omega) hm (by omega)
  refine ⟨xs, ?_, e2, e3⟩
  unfold V.item V.take
  rw [if_neg (by simp [bad]; rfl), if_neg (by decide), if_neg (by decide), if_neg (by decide), if_neg (by decide), if_neg (by decide), if_pos rfl, if_neg (by decide)]
  show Option.map I.list (takes l 1 65535).1 = _
  rw [e1]
  rfl
theorem text_parts (t : ByteArray) : (V.mk 5 0 0 t []).item = if t.size ≤ 65535 then some (.text t) else none := by
  unfold V.item V.take
  rw [if_neg (by simp [bad]), if_neg (by decide), if_neg (by decide), if_neg (by decide), if_neg (by decide), if_pos rfl]
  by_cases h : t.size ≤ 65535
  · rw [if_pos h, if_pos (by omega)]
  · rw [if_neg h, if_neg (by omega)]
theorem pkeys_snoc : ∀ (l : List V) (v : V), pkeys (l ++ [v]) = pkeys l ++ v.kb
  | [], v => by simp [pkeys]
  | u :: l, v => by simp only [List.cons_append, pkeys, pkeys_snoc l v, List.append_assoc]
theorem psize_snoc : ∀ (l : List V) (v : V), psize (l ++ [v]) = psize l + v.size
  | [], v => by simp [psize]
  | u :: l, v => by simp only [List.cons_append, psize, psize_snoc l v]; omega
theorem pmay_snoc (l : List V) (v : V) : pmay (l ++ [v]) = (pmay l && (v.may && v.flat)) := by
  unfold pmay
  rw [List.all_append]
  simp
theorem may_of (v : V) : v.may = match v.item with | none => false | some _ => true := by
  unfold V.may
  cases v.item with
  | none => rfl
  | some x => rfl
theorem pkeys_len : ∀ (l : List V), (pkeys l).length ≤ 589824 * l.length
  | [] => Nat.zero_le _
  | v :: l => by
    have ih := pkeys_len l
    have h : v.kb.length ≤ 589824 := by
      cases hx : v.item with
      | none => rw [kb_none hx]; exact Nat.zero_le _
      | some x =>
        have h1 := item_size hx
        have h2 := key_len x
        rw [kb_some hx]
        omega
    simp only [pkeys, List.length_append, List.length_cons]
    omega
end Go.Proofs.Ytffdfegelgpniaa
