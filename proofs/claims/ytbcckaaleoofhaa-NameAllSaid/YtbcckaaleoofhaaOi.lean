/-
  Slices of texts; the document's own Order: its steps.
-/
import Derived.Test.YtbcckaaleoofhaaOh
import Derived.Test.YtbcckaaleoofhaaOg
namespace Go.Proofs.Ytbcckaaleoofhaa
open Go.RowKit Go.Fl

def enc (l : List (List UInt8)) : List Value := l.map fun s => .string ⟨s.toArray⟩
theorem enc_length (l : List (List UInt8)) : (enc l).length = l.length := by simp [enc]
theorem enc_at {l : List (List UInt8)} {i : Nat} (h : i < l.length) : (enc l)[i]? = some (.string ⟨l[i].toArray⟩) := by simp [enc, h]
theorem enc_append (a b : List (List UInt8)) : enc (a ++ b) = enc a ++ enc b := by simp [enc]
/-- A slice that reads these texts. -/
def Strs (w : World) (v : Value) (l : List (List UInt8)) : Prop :=
  ∃ a cap, v = .slice a l.length cap ∧ l.length ≤ cap ∧ cap ≤ maxLen ∧ (0 < l.length → ∃ g off, a = some ⟨g, off, none⟩ ∧ g < w.heap.size ∧ ∀ i (h : i < l.length), w.cell? ⟨g, off + i, none⟩ = some (.string ⟨l[i].toArray⟩))
theorem Strs.only {w w' : World} {v : Value} {l : List (List UInt8)} (h : Strs w v l) (ho : Only [] w w') : Strs w' v l := by
  obtain ⟨a, cap, rfl, h1, h2, h3⟩ := h
  refine ⟨a, cap, rfl, h1, h2, fun hn => ?_⟩
  obtain ⟨g, off, rfl, hg, hh⟩ := h3 hn
  exact ⟨g, off, rfl, Nat.lt_of_lt_of_le hg ho.size, fun i hi => (ho.cell (p := ⟨g, off + i, none⟩) hg (by simp)).trans (hh i hi)⟩
theorem Strs.of_sl {w : World} {v : Value} {l : List (List UInt8)} (h : Sl w 9 1 v l.length (enc l)) : Strs w v l := by
  obtain ⟨a, c, hv, hc, ha⟩ := h.shape
  rcases Nat.eq_zero_or_pos l.length with h0 | h0
  · refine ⟨a, c, hv, hc, ?_, fun hn => by omega⟩
    rcases h.2 with ⟨hv2, _⟩ | ⟨g, off, cap, cur, hv2, _, _, hm, _⟩
    · rw [hv] at hv2; injection hv2 with _ _ e; rw [e]; simp
    · rw [hv] at hv2; injection hv2 with _ _ e; rw [e]; exact hm
  · obtain ⟨g, off, cap, hv2, hg, h1, h2, h3, _⟩ := h.form h0
    refine ⟨_, cap, hv2, h1, h2, fun _ => ⟨g, off, rfl, hg, fun i hi => (h3 i (by omega)).trans (enc_at hi)⟩⟩

/-- Where a text belongs. -/
theorem putIn_at : ∀ (l : List (List UInt8)) (x : List UInt8) (k : Nat), k ≤ l.length → (∀ i (h : i < l.length), i < k → Op.bytesLess l[i] x = true) → (∀ h : k < l.length, Op.bytesLess l[k] x = false) →
    putIn x l = if l[k]? = some x then l else l.take k ++ x :: l.drop k
  | [], x, k, hk, _, _ => by
    have : k = 0 := by simpa using hk
    subst this; rfl
  | a :: l, x, 0, _, _, h => by
    have h0 : Op.bytesLess a x = false := h (by simp)
    rw [putIn, h0]
    simp
  | a :: l, x, k + 1, hk, hl, h => by
    have ha : Op.bytesLess a x = true := hl 0 (by simp) (by omega)
    have ih := putIn_at l x k (by simpa using hk) (fun i hi hik => hl (i + 1) (by simpa using hi) (by omega)) (fun hh => h (by simpa using hh))
    rw [putIn, if_pos ha, ih]
    simp only [List.getElem?_cons_succ, List.take_succ_cons, List.drop_succ_cons, List.cons_append]
    split <;> rfl
theorem putIn_len (x : List UInt8) : ∀ l, (putIn x l).length ≤ l.length + 1
  | [] => by simp [putIn]
  | a :: l => by
    rw [putIn]
    split
    · have := putIn_len x l; simp; omega
    · split <;> simp
/-- The shift's step. -/
theorem shift_step (L : List (List UInt8)) (j : List UInt8) (k : Nat) (h0 : 0 < k) (h : k ≤ L.length) : (enc (L.take k ++ j :: L.drop k)).set k (.string ⟨(L[k - 1]'(by omega)).toArray⟩) = enc (L.take (k - 1) ++ (L[k - 1]'(by omega)) :: L.drop (k - 1)) := by
  have e1 : (enc (L.take k)).length = k := by rw [enc_length, List.length_take]; omega
  rw [enc_append, List.set_append_right _ _ (by omega), e1, Nat.sub_self]
  have e2 : L.take k = L.take (k - 1) ++ [L[k - 1]'(by omega)] := by
    have := List.take_succ_eq_append_getElem (l := L) (i := k - 1) (by omega)
    rwa [show k - 1 + 1 = k by omega] at this
  have e3 : L.drop (k - 1) = (L[k - 1]'(by omega)) :: L.drop k := by
    have := List.drop_eq_getElem_cons (l := L) (i := k - 1) (by omega)
    rwa [show k - 1 + 1 = k by omega] at this
  have e4 : enc (L.take k) = enc (L.take (k - 1)) ++ [.string ⟨(L[k - 1]'(by omega)).toArray⟩] := by rw [e2, enc_append]; rfl
  rw [enc_append, e3, e4, List.append_assoc]
  rfl
theorem shift_end (L : List (List UInt8)) (j x : List UInt8) (k : Nat) (h : k ≤ L.length) : (enc (L.take k ++ j :: L.drop k)).set k (.string ⟨x.toArray⟩) = enc (L.take k ++ x :: L.drop k) := by
  have e1 : (enc (L.take k)).length = k := by rw [enc_length, List.length_take]; omega
  rw [enc_append, List.set_append_right _ _ (by omega), e1, Nat.sub_self, enc_append]
  simp [enc]
end Go.Proofs.Ytbcckaaleoofhaa
