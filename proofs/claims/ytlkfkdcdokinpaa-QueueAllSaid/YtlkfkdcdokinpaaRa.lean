/-
  The document's own queue: its state; Sum, has, May, New, room.
-/
import Derived.Test.YtlkfkdcdokinpaaQl
import Derived.Deep.QuietTactic
namespace Go.Proofs.Ytlkfkdcdokinpaa
open Go.RowKit Go.Fl

/-- The struct of the document's queue. -/
abbrev RB (w : World) (r : Nat) (cap bytes : Int) (iv lv : Value) : Prop := Blk w r 68 #[.int .i64 cap, .int .i64 bytes, iv, lv]
structure ROk (w : World) (r : Nat) (cap bytes : Int) (held line : List Item) (iv lv : Value) : Prop where
  okh : Held cap bytes held
  okl : Sized line
  cap0 : 1 ≤ cap
  byt0 : 1 ≤ bytes
  lenl : line.length ≤ 1024
  B : RB w r cap bytes iv lv
  I : Sl w 38 2 iv held.length (cells held)
  L : Sl w 38 2 lv line.length (cells line)
  sep : ∀ g, iv.ownBlock = some g → lv.ownBlock ≠ some g
def rblocks (r : Nat) (iv lv : Value) : List Nat := r :: (iv.ownBlock.toList ++ lv.ownBlock.toList)
def RIs (w : World) (r : Nat) (S : List Nat) (cap bytes : Int) (held line : List Item) : Prop := ∃ iv lv, ROk w r cap bytes held line iv lv ∧ ∀ g ∈ rblocks r iv lv, g ∈ S
def RStep (w w' : World) (r : Nat) (S : List Nat) (cap bytes : Int) (held line : List Item) : Prop :=
  ∃ S', RIs w' r S' cap bytes held line ∧ Only S w w' ∧ ∀ g ∈ S', g ∈ S ∨ w.heap.size ≤ g

theorem sum_le_of {l : List Item} {B : Int} (hB : 0 ≤ B) (h : ∀ x ∈ l, 0 ≤ x.2 ∧ x.2 ≤ B) (k : Nat) : 0 ≤ sum (l.take k) ∧ sum (l.take k) ≤ k * B := by
  induction k generalizing l with
  | zero => simp [sum]
  | succ k ih =>
    cases l with
    | nil => have := Int.mul_nonneg (Int.natCast_nonneg (k + 1)) hB; simpa [sum] using this
    | cons x l =>
      have h1 := h x (List.mem_cons_self ..)
      have h2 := ih (l := l) fun y hy => h y (List.mem_cons_of_mem _ hy)
      rw [List.take_succ_cons, sum_cons]
      have e : ((k + 1 : Nat) : Int) * B = k * B + B := by rw [Int.natCast_add, Int.add_mul]; simp
      rw [e]; omega

set_option maxHeartbeats 400000 in
theorem rsum_ok {v : Value} {l : List Item} (w : World) (h : Sl w 38 2 v l.length (cells l)) (hl : l.length ≤ 4096) (hz : Sized l) :
    Calls Try.prog 32 #[v] w fun e w' => e = .returned (.int .i64 (sum l)) ∧ w' = w := by
  obtain ⟨a, c, hv, hc, _⟩ := h.shape
  have H := Lib.hid h
  have HZ := Lib.hid hz
  clear h hz
  subst hv
  go_enter Try.func32, Try.ntmps32
  go_wp2
  go_loopw [3, 4] (fun s i wr => ∃ k : Nat, k ≤ l.length ∧ s = .int .i64 (sum (l.take k)) ∧ i = .int .i64 k ∧ Hid (wr = w)) (fun _ i _ => l.length - (intOf i).toNat)
  case atStart => exact ⟨0, Nat.zero_le _, by simp [sum], rfl, Lib.hid rfl⟩
  case round =>
    obtain ⟨k, hk, rfl, rfl, HW⟩ := hrel
    obtain rfl := HW.out
    by_cases hkl : k < l.length
    · obtain ⟨g, o, c', hv, hg, _, _, hcc, _⟩ := H.out.form (by omega)
      injection hv with hva hvl hvc
      subst hva
      subst hvc
      clear hvl
      have hx : l[k]? = some l[k] := List.getElem?_eq_getElem hkl
      have e1 := (hcc (k * 2 + 1) (by omega)).trans (cells_at l k _ hx).2
      rw [← Nat.add_assoc] at e1
      have hfx := HZ.out l[k] (List.getElem_mem hkl)
      have hst := sum_le_of (B := 16777216) (by omega) HZ.out k
      have HE := Lib.hid (show sum (l.take (k + 1)) = sum (l.take k) + l[k].2 by rw [take_succ l k hkl, sum_append])
      clear hcc hx
      go_wp2
      go_roundw
      case measure => simp [intOf]; omega
      case rel => exact ⟨k + 1, by omega, by rw [HE.out], by congr 1, (by first | exact Lib.hid rfl | exact Lib.hid trivial)⟩
    · obtain rfl : k = l.length := by omega
      rw [List.take_length]
      go_wp2
      go_ret
      exact ⟨rfl, rfl⟩

theorem has_at {l : List Item} {id : Int} : (idsOf l).contains id = true ↔ ∃ k, ∃ h : k < l.length, l[k].1 = id := by
  rw [List.contains_iff_mem]
  constructor
  · intro h
    obtain ⟨x, hx, rfl⟩ := List.mem_map.1 h
    obtain ⟨k, hk, rfl⟩ := List.mem_iff_getElem.1 hx
    exact ⟨k, hk, rfl⟩
  · rintro ⟨k, hk, rfl⟩
    exact List.mem_map.2 ⟨_, List.getElem_mem hk, rfl⟩

set_option maxHeartbeats 400000 in
theorem has_ok {v : Value} {l : List Item} (id : Int) (w : World) (h : Sl w 38 2 v l.length (cells l)) (hl : l.length ≤ 4096) :
    Calls Try.prog 30 #[v, .int .i64 id] w fun e w' => e = .returned (.bool ((idsOf l).contains id)) ∧ w' = w := by
  obtain ⟨a, c, hv, hc, _⟩ := h.shape
  have H := Lib.hid h
  clear h
  subst hv
  go_enter Try.func30, Try.ntmps30
  go_wp2
  go_loopw [5] (fun i wr => ∃ k : Nat, k ≤ l.length ∧ i = .int .i64 k ∧ Hid (wr = w) ∧ Hid (∀ j (h : j < l.length), j < k → l[j].1 ≠ id)) (fun i _ => l.length - (intOf i).toNat)
  case atStart => exact ⟨0, Nat.zero_le _, rfl, Lib.hid rfl, Lib.hid (fun j _ h => by omega)⟩
  case round =>
    obtain ⟨k, hk, rfl, HW, HN⟩ := hrel
    obtain rfl := HW.out
    by_cases hkl : k < l.length
    · obtain ⟨g, o, c', hv, hg, _, _, hcc, _⟩ := H.out.form (by omega)
      injection hv with hva hvl hvc
      subst hva
      subst hvc
      clear hvl
      have hx : l[k]? = some l[k] := List.getElem?_eq_getElem hkl
      have e1 := (hcc (k * 2) (by omega)).trans (cells_at l k _ hx).1
      clear hcc hx
      by_cases hid : l[k].1 = id
      · have HT := Lib.hid (show (idsOf l).contains id = true from has_at.2 ⟨k, hkl, hid⟩)
        go_wp2
        go_ret
        exact ⟨by have := HT.out; rw [List.contains_eq_mem] at this; simp only [this]; rfl, rfl⟩
      · go_wp2
        go_roundw
        case measure => simp [intOf]; omega
        case rel => exact ⟨k + 1, by omega, by congr 1, (by first | exact Lib.hid rfl | exact Lib.hid trivial), Lib.hid (fun j h hj => by
          rcases Nat.lt_succ_iff_lt_or_eq.1 hj with hj | hj
          · exact HN.out j h hj
          · subst hj; exact hid)⟩
    · have HT := Lib.hid (show (idsOf l).contains id = false by
        rw [← Bool.not_eq_true, has_at]
        rintro ⟨j, hj, he⟩
        exact HN.out j hj (by omega) he)
      go_wp2
      go_ret
      exact ⟨by have := HT.out; rw [List.contains_eq_mem] at this; simp only [this]; rfl, rfl⟩

theorem rmay_ok (cap bytes : Int) (w : World) : Calls Try.prog 29 #[.int .i64 cap, .int .i64 bytes] w fun e w' => e = .returned (.bool (decide (May cap bytes))) ∧ w' = w := by
  by_cases h1 : 1 ≤ cap <;> by_cases h2 : cap ≤ 1024 <;> by_cases h3 : 1 ≤ bytes <;> by_cases h4 : bytes ≤ 16777216
  all_goals
    have HM := Lib.hid (show decide (May cap bytes) = (decide (1 ≤ cap) && decide (cap ≤ 1024) && decide (1 ≤ bytes) && decide (bytes ≤ 16777216)) by rw [Bool.eq_iff_iff]; simp [May, and_assoc]; exact decide_eq_true_iff)
    go_enter Try.func29, Try.ntmps29
    go_wp2
    go_ret
    exact ⟨by rw [HM.out]; simp [*], rfl⟩
end Go.Proofs.Ytlkfkdcdokinpaa
