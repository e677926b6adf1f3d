/-
  CrashEach in plain words: all fates of a disk with a file whose tail is so long, and one that was just laid.
-/
import Derived.Test.YthekilgolelomaaLe
set_option linter.unusedSimpArgs false
set_option linter.unusedVariables false
namespace Go.Proofs.Ythekilgolelomaa
open Go.RowKit Go.Fl

theorem ce_sync {l : List UInt8} : (FD.mk l [] 0).sync = ⟨l, l, 0⟩ := by
  unfold FD.sync FD.kept FD.bad FD.tail
  simp
theorem ce_left (l t : List UInt8) {k : Nat} (hk : k ≤ t.length) : (FD.mk (l ++ t) l 0).left k [] = l ++ t.take k := by
  have ht : (FD.mk (l ++ t) l 0).tail = t := by unfold FD.tail; simp
  have hc : (FD.mk (l ++ t) l 0).cutN k = k := by unfold FD.cutN; rw [ht]; omega
  unfold FD.left FD.kept FD.bad
  rw [hc, ht]
  simp
section
variable {fs : Nat → FD} {fa fb : Nat} {a b c : List UInt8}
theorem ce_tm (ha : fs fa = ⟨a ++ b, a, 0⟩) (hb : fs fb = ⟨c, [], 0⟩) : TM [([97], fa)] [.cr [110] fb] fs 0 = [b.length] ∧ TM [([97], fa)] [.cr [110] fb] fs 1 = [b.length, c.length] := by
  have h1 : (fs fa).tail.length = b.length := by rw [ha]; unfold FD.tail; simp
  have h2 : (fs fb).tail.length = c.length := by rw [hb]; unfold FD.tail; simp
  refine ⟨?_, ?_⟩
  · show [(fs fa).tail.length] = _
    rw [h1]
  · show [(fs fa).tail.length, (fs fb).tail.length] = _
    rw [h1, h2]
theorem ce_chM {B C : Nat} (hB : B ≤ 20) (hC : C ≤ 20) : chM [B] 1 = some (B + 1) ∧ chM [B, C] 1 = some ((B + 1) * (C + 1)) := by
  have h1 : ¬ mostC / (B + 1) < 1 := by
    rw [Nat.not_lt, Nat.le_div_iff_mul_le (by omega)]
    unfold mostC
    omega
  have h2 : ¬ mostC / (C + 1) < B + 1 := by
    rw [Nat.not_lt, Nat.le_div_iff_mul_le (by omega)]
    have : (B + 1) * (C + 1) ≤ 21 * 21 := Nat.mul_le_mul (by omega) (by omega)
    unfold mostC
    omega
  refine ⟨?_, ?_⟩
  · unfold chM
    rw [if_neg h1, Nat.one_mul]
    rfl
  · unfold chM
    rw [if_neg h1, Nat.one_mul]
    unfold chM
    rw [if_neg h2]
    rfl
theorem ce_up {T : Nat → List Nat} {B C : Nat} (h0 : T 0 = [B]) (h1 : T 1 = [B, C]) (hB : B ≤ 20) (hC : C ≤ 20) : upM T 2 = some ((B + 1) * (C + 2)) ∧ chD T 0 = B + 1 ∧ chD T 1 = (B + 1) * (C + 1) := by
  obtain ⟨c0, c1⟩ := ce_chM hB hC
  rw [← h0] at c0
  rw [← h1] at c1
  have u1 : upM T 1 = some (B + 1) := by
    unfold upM upM
    dsimp only
    rw [c0]
    dsimp only
    rw [if_neg (by omega), Nat.zero_add]
  have hm : (B + 1) * (C + 1) ≤ 21 * 21 := Nat.mul_le_mul (by omega) (by omega)
  refine ⟨?_, by unfold chD; rw [c0]; rfl, by unfold chD; rw [c1]; rfl⟩
  show (match upM T 1 with | none => none | some a => match chM (T 1) 1 with | none => none | some m => if mostC - m < a then none else some (a + m)) = _
  rw [u1, c1]
  dsimp only
  have h7 : mostC = 1099511627776 := rfl
  rw [if_neg (by omega)]
  have he : (B + 1) * (C + 2) = (B + 1) + (B + 1) * (C + 1) := by rw [show C + 2 = 1 + (C + 1) by omega, Nat.mul_add, Nat.mul_one]
  rw [he]
/-- What the i-th fate keeps. -/
def kA (B C i : Nat) : Nat := if i < B + 1 then i else (i - (B + 1)) / (C + 1)
def kN (B C i : Nat) : Nat := (i - (B + 1)) % (C + 1)
theorem kA_lt {B C i : Nat} (hi : i < (B + 1) * (C + 2)) : kA B C i < B + 1 := by
  unfold kA
  split
  · assumption
  · rename_i h
    rw [Nat.div_lt_iff_lt_mul (by omega)]
    have : (B + 1) * (C + 2) = (B + 1) + (B + 1) * (C + 1) := by rw [show C + 2 = 1 + (C + 1) by omega, Nat.mul_add, Nat.mul_one]
    omega
theorem ce_at0 {T : Nat → List Nat} {B C i : Nat} (h0 : T 0 = [B]) (d0 : chD T 0 = B + 1) (hi : i < B + 1) : atM T 2 0 i = (0, i) ∧ (digM (T 0) i).1 = [kA B C i] := by
  refine ⟨by unfold atM; rw [d0, if_pos hi], ?_⟩
  rw [h0]
  show [i % (B + 1)] = [kA B C i]
  unfold kA
  rw [Nat.mod_eq_of_lt hi, if_pos hi]
theorem ce_at1 {T : Nat → List Nat} {B C i : Nat} (h1 : T 1 = [B, C]) (d0 : chD T 0 = B + 1) (d1 : chD T 1 = (B + 1) * (C + 1)) (hi : ¬ i < B + 1) (hn : i < (B + 1) * (C + 2)) : atM T 2 0 i = (1, i - (B + 1)) ∧ (digM (T 1) (i - (B + 1))).1 = [kA B C i, kN B C i] := by
  have he : (B + 1) * (C + 2) = (B + 1) + (B + 1) * (C + 1) := by rw [show C + 2 = 1 + (C + 1) by omega, Nat.mul_add, Nat.mul_one]
  refine ⟨?_, ?_⟩
  · unfold atM
    rw [d0, if_neg hi]
    unfold atM
    rw [d1, if_pos (by omega)]
  · rw [h1]
    show [(i - (B + 1)) / (C + 1) % (B + 1), (i - (B + 1)) % (C + 1)] = _
    have := kA_lt hn
    unfold kA at this ⊢
    rw [if_neg hi] at this ⊢
    rw [Nat.mod_eq_of_lt this]
    rfl
theorem view_two {fs : Nat → FD} {D : Dir} {s t : Nm} {x y : FD} (h : view fs D = [(s, x), (t, y)]) : ∃ g k, D = [(s, g), (t, k)] ∧ fs g = x ∧ fs k = y := by
  unfold view at h
  match D, h with
  | [(s', g), (t', k)], h =>
    injection h with h h2
    injection h with h1 h3
    injection h2 with h2 _
    injection h2 with h4 h5
    exact ⟨g, k, by rw [← h1, ← h4], h3, h5⟩
theorem ce_v0 {fs2 : Nat → FD} {D : Dir} (ha : fs fa = ⟨a ++ b, a, 0⟩) {k : Nat} (hk : k ≤ b.length) (h : view fs2 D = crashV fs (kpat (kjs [k])) (doAll [([97], fa)] (([.cr [110] fb] : List Chg).take 0))) :
    ∃ g, D = [([97], g)] ∧ fs2 g = FD.flat (a ++ b.take k) := by
  have h1 : crashV fs (kpat (kjs [k])) (doAll [([97], fa)] (([.cr [110] fb] : List Chg).take 0)) = [([97], FD.flat ((fs fa).left k []))] := rfl
  rw [h1, ha, ce_left a b hk] at h
  exact view_one h
theorem ce_v1 {fs2 : Nat → FD} {D : Dir} (ha : fs fa = ⟨a ++ b, a, 0⟩) (hb : fs fb = ⟨c, [], 0⟩) {k n : Nat} (hk : k ≤ b.length) (hn : n ≤ c.length) (h : view fs2 D = crashV fs (kpat (kjs [k, n])) (doAll [([97], fa)] (([.cr [110] fb] : List Chg).take 1))) :
    ∃ g j, D = [([97], g), ([110], j)] ∧ fs2 g = FD.flat (a ++ b.take k) ∧ fs2 j = FD.flat (c.take n) := by
  have h1 : crashV fs (kpat (kjs [k, n])) (doAll [([97], fa)] (([.cr [110] fb] : List Chg).take 1)) = [([97], FD.flat ((fs fa).left k [])), ([110], FD.flat ((fs fb).left n []))] := rfl
  have h2 := ce_left [] c hn
  rw [List.nil_append] at h2
  rw [h1, ha, hb, ce_left a b hk, h2] at h
  exact view_two h
end
/-! ### How often each front is left -/
theorem count_div (m j : Nat) (hm : 0 < m) : ∀ n, (List.range (n * m)).countP (fun y => y / m == j) = if j < n then m else 0
  | 0 => by simp
  | n + 1 => by
    have h1 : List.range ((n + 1) * m) = List.range (n * m) ++ (List.range m).map (n * m + ·) := by
      rw [Nat.succ_mul, List.range_add]
    rw [h1, List.countP_append, count_div m j hm n, List.countP_map]
    have h2 : (List.range m).countP ((fun y => y / m == j) ∘ (n * m + ·)) = if n = j then m else 0 := by
      have h3 : ∀ x ∈ List.range m, (((fun y => y / m == j) ∘ (n * m + ·)) x = true ↔ decide (n = j) = true) := fun x hx => by
        have hx := List.mem_range.1 hx
        have : (n * m + x) / m = n := by
          rw [Nat.mul_comm, Nat.mul_add_div hm, Nat.div_eq_of_lt hx, Nat.add_zero]
        simp [Function.comp, this]
      rw [List.countP_congr h3]
      by_cases e : n = j
      · rw [if_pos e]
        simp [e]
      · rw [if_neg e]
        simp [e]
    rw [h2]
    split <;> split <;> split <;> omega
theorem count_eq (j : Nat) : ∀ n, (List.range n).countP (fun y => y == j) = if j < n then 1 else 0
  | 0 => by simp
  | n + 1 => by
    rw [List.range_succ, List.countP_append, count_eq j n]
    by_cases e : n = j
    · subst e
      simp
    · have : (n == j) = false := by simpa using e
      simp [this]
      split <;> split <;> omega
/-- How often each front has been left behind i fates. -/
def cnts (B C i : Nat) : List Nat := (List.range (B + 1)).map fun j => (List.range i).countP fun x => kA B C x == j
theorem cnts_zero (B C : Nat) : cnts B C 0 = List.replicate (B + 1) 0 := by
  unfold cnts
  rw [List.eq_replicate_iff]
  refine ⟨by simp, fun x hx => ?_⟩
  obtain ⟨j, _, rfl⟩ := List.mem_map.1 hx
  rfl
theorem cnts_len (B C i : Nat) : (cnts B C i).length = B + 1 := by unfold cnts; simp
theorem cnts_at {B C i j : Nat} (h : j < (cnts B C i).length) : (cnts B C i)[j] = (List.range i).countP fun x => kA B C x == j := by simp [cnts]
theorem cnts_succ {B C i : Nat} (hi : i < (B + 1) * (C + 2)) : cnts B C (i + 1) = (cnts B C i).set (kA B C i) ((cnts B C i).getD (kA B C i) 0 + 1) := by
  have hk := kA_lt hi
  apply List.ext_getElem
  · simp [cnts]
  · intro j h1 h2
    have hj : j < B + 1 := by rw [cnts_len] at h1; exact h1
    have hg : (cnts B C i).getD (kA B C i) 0 = (List.range i).countP fun x => kA B C x == kA B C i := by
      unfold cnts
      rw [List.getD_eq_getElem?_getD, List.getElem?_map, List.getElem?_range (by omega)]
      rfl
    rw [List.getElem_set]
    simp only [hg]
    rw [cnts_at, cnts_at]
    rw [List.range_succ, List.countP_append]
    by_cases e : kA B C i = j
    · rw [if_pos e]
      subst e
      simp
    · rw [if_neg e]
      have : (kA B C i == j) = false := by simpa using e
      simp [this]
theorem cnts_end (B C : Nat) : cnts B C ((B + 1) * (C + 2)) = List.replicate (B + 1) (C + 2) := by
  rw [List.eq_replicate_iff]
  refine ⟨cnts_len _ _ _, fun x hx => ?_⟩
  unfold cnts at hx
  obtain ⟨j, hj, rfl⟩ := List.mem_map.1 hx
  have hj := List.mem_range.1 hj
  have he : (B + 1) * (C + 2) = (B + 1) + (B + 1) * (C + 1) := by rw [show C + 2 = 1 + (C + 1) by omega, Nat.mul_add, Nat.mul_one]
  rw [he, List.range_add, List.countP_append, List.countP_map]
  have h1 : (List.range (B + 1)).countP (fun x => kA B C x == j) = 1 := by
    have h2 : ∀ x ∈ List.range (B + 1), ((kA B C x == j) = true ↔ (x == j) = true) := fun x hx => by
      have hx := List.mem_range.1 hx
      unfold kA
      rw [if_pos hx]
    rw [List.countP_congr h2, count_eq, if_pos hj]
  have h3 : (List.range ((B + 1) * (C + 1))).countP ((fun x => kA B C x == j) ∘ (B + 1 + ·)) = C + 1 := by
    have h4 : ∀ x ∈ List.range ((B + 1) * (C + 1)), (((fun x => kA B C x == j) ∘ (B + 1 + ·)) x = true ↔ (x / (C + 1) == j) = true) := fun x hx => by
      show (kA B C (B + 1 + x) == j) = true ↔ _
      unfold kA
      rw [if_neg (by omega), Nat.add_sub_cancel_left]
    rw [List.countP_congr h4, count_div (C + 1) j (by omega), if_pos hj]
  rw [h1, h3]
  omega
end Go.Proofs.Ythekilgolelomaa
