/-
  NameAll, plain: what a text's number is. No program in sight.
-/
import Derived.Test.YtbcckaaleoofhaaNa
namespace Go.Fl

def hexVal (c : UInt8) : Option Nat := figs.findIdx? (· == c)
def hexFold : Nat → List UInt8 → Option Nat
  | n, [] => some n
  | n, c :: l => match hexVal c with | none => none | some d => hexFold (n * 16 + d) l
def numM (l : List UInt8) : Int × Bool :=
  if l.length = 24 ∧ l.take 4 = segFront ∧ l.drop 20 = segBack then
    match hexFold 0 ((l.drop 4).take 16) with
    | none => (0, false)
    | some n => if 1 ≤ n ∧ n < 9223372036854775808 then ((n : Int), true) else (0, false)
  else (0, false)

theorem hexVal_lt {c : UInt8} {d : Nat} (h : hexVal c = some d) : d < 16 ∧ dig d = c := by
  unfold hexVal at h
  rw [List.findIdx?_eq_some_iff_getElem] at h
  obtain ⟨hd, h1, _⟩ := h
  have hd16 : d < 16 := hd
  refine ⟨hd16, ?_⟩
  have := figs_at d hd16
  rw [List.getElem?_eq_getElem hd] at this
  injection this with this
  rw [← this]
  simpa using h1
theorem hexVal_dig (d : Nat) (h : d < 16) : hexVal (dig d) = some d := by
  have : ∀ d < 16, hexVal (dig d) = some d := by decide
  exact this d h
theorem hexVal_none {c : UInt8} : hexVal c = none ↔ ∀ d < 16, dig d ≠ c := by
  unfold hexVal
  rw [List.findIdx?_eq_none_iff]
  constructor
  · intro h d hd e
    have := figs_at d hd
    have hm : dig d ∈ figs := List.mem_of_getElem? this
    have := h _ hm
    simp [e] at this
  · intro h x hx
    obtain ⟨d, hd, rfl⟩ := List.mem_iff_getElem.1 hx
    have hd16 : d < 16 := hd
    have := figs_at d hd16
    rw [List.getElem?_eq_getElem hd] at this
    injection this with this
    rw [this]
    simpa using h d hd16
theorem hexFold_lt : ∀ (l : List UInt8) (n m : Nat), hexFold n l = some m → m < (n + 1) * 16 ^ l.length ∧ n * 16 ^ l.length ≤ m
  | [], n, m, h => by simp [hexFold] at h; subst h; simp
  | c :: l, n, m, h => by
    rw [hexFold] at h
    cases hc : hexVal c with
    | none => rw [hc] at h; cases h
    | some d =>
      rw [hc] at h
      have hd := (hexVal_lt hc).1
      have ih := hexFold_lt l _ m h
      rw [List.length_cons, Nat.pow_succ]
      generalize 16 ^ l.length = M at *
      have h1 : (n * 16 + d + 1) * M ≤ (n + 1) * (M * 16) := by
        rw [Nat.mul_comm M 16, ← Nat.mul_assoc]; exact Nat.mul_le_mul_right _ (by omega)
      have h2 : n * (M * 16) ≤ (n * 16 + d) * M := by
        rw [Nat.mul_comm M 16, ← Nat.mul_assoc]; exact Nat.mul_le_mul_right _ (by omega)
      exact ⟨Nat.lt_of_lt_of_le ih.1 h1, Nat.le_trans h2 ih.2⟩
/-- What is read is what is written. -/
theorem hexFold_hexR : ∀ (l : List UInt8) (n m : Nat), hexFold n l = some m → hexR l.length m = l
  | [], _, _, _ => rfl
  | c :: l, n, m, h => by
    have hh := h
    rw [hexFold] at h
    cases hc : hexVal c with
    | none => rw [hc] at h; cases h
    | some d =>
      rw [hc] at h
      have hd := hexVal_lt hc
      have ih := hexFold_hexR l _ m h
      have hb := hexFold_lt l _ m h
      have h0 : 0 < 16 ^ l.length := Nat.pow_pos (by omega)
      rw [List.length_cons, hexR, ih]
      have e : m / 16 ^ l.length = n * 16 + d := by
        apply Nat.div_eq_of_lt_le
        · exact hb.2
        · exact hb.1
      rw [e, show (n * 16 + d) % 16 = d by omega, hd.2]
end Go.Fl
