/-
  Package name: Segment.
-/
import Derived.Test.YtbcckaaleoofhaaNd
import Derived.Laws.IdiomStrings
import Derived.Lib.QuoteBits
namespace Go.Proofs.Ytbcckaaleoofhaa
open Go.RowKit Go.Fl

/-- The array behind k rounds. -/
def bcell (n k j : Nat) : Value := .int .u8 (if 15 - j < k then ((dig (n / 16 ^ (15 - j) % 16)).toNat : Int) else 0)
def bcells (n k : Nat) : Array Value := ((List.range 16).map (bcell n k)).toArray
abbrev str (l : List UInt8) : Value := .string ⟨l.toArray⟩

theorem i64_and15 (x : Nat) (h : x < 9223372036854775808) : bits .and .i64 (x : Int) 15 = ((x % 16 : Nat) : Int) := by
  have h15 : (BitVec.ofInt 64 15).toNat = 2 ^ 4 - 1 := by decide
  have key : (BitVec.ofInt 64 (x : Int) &&& BitVec.ofInt 64 15).toNat = ((x : Int) % ((2 ^ 64 : Nat) : Int)).toNat % 2 ^ 4 := by
    rw [BitVec.toNat_and, BitVec.toNat_ofInt, h15, Nat.and_two_pow_sub_one_eq_mod]
  show IntKind.i64.wrap ((BitVec.ofInt 64 (x : Int) &&& BitVec.ofInt 64 15).toNat : Nat) = _
  rw [key, IntKind.wrap_i64]
  omega
theorem and_digit (n k : Nat) (h : n < 9223372036854775808) : bits .and .i64 ((n : Int) / 2 ^ (4 * k)) 15 = ((n / 16 ^ k % 16 : Nat) : Int) := by
  have e : (n : Int) / 2 ^ (4 * k) = ((n / 16 ^ k : Nat) : Int) := by
    rw [Int.natCast_ediv, show (16 : Nat) = 2 ^ 4 from rfl, ← Nat.pow_mul]; simp
  rw [e]
  exact i64_and15 _ (Nat.lt_of_le_of_lt (Nat.div_le_self _ _) h)
theorem fig_get (d : Nat) (h : d < 16) : ((⟨#[48, 49, 50, 51, 52, 53, 54, 55, 56, 57, 97, 98, 99, 100, 101, 102]⟩ : ByteArray)[d]'(by exact h)) = dig d := by
  have := figs_at d h
  rw [List.getElem?_eq_getElem (by exact h)] at this
  injection this
theorem bcells_at (n k j : Nat) (h : j < 16) : (bcells n k)[j]? = some (bcell n k j) := by simp [bcells, h]
theorem hexR_at : ∀ (k n j : Nat) (h : j < k), (hexR k n)[j]? = some (dig (n / 16 ^ (k - 1 - j) % 16))
  | k + 1, n, 0, _ => by simp [hexR]
  | k + 1, n, j + 1, h => by
    rw [hexR, List.getElem?_cons_succ, hexR_at k n j (by omega), show k + 1 - 1 - (j + 1) = k - 1 - j by omega]
theorem bytes_app (a b : List UInt8) : (⟨a.toArray⟩ ++ ⟨b.toArray⟩ : ByteArray) = ⟨(a ++ b).toArray⟩ := by
  apply ByteArray.ext
  simp
theorem seg_str (n : Nat) : ((⟨#[115, 101, 103, 45]⟩ : ByteArray) ++ ⟨(hexR 16 n).toArray⟩ ++ ⟨#[46, 108, 111, 103]⟩) = ⟨(seg n).toArray⟩ := by
  show ((⟨segFront.toArray⟩ : ByteArray) ++ ⟨(hexR 16 n).toArray⟩ ++ ⟨segBack.toArray⟩) = _
  rw [bytes_app, bytes_app, List.append_assoc]
  rfl
theorem bcells_set (n k : Nat) (h : k < 16) : SetEq ((bcells n k).setIfInBounds (15 - k) (.int .u8 ((dig (n / 16 ^ k % 16)).toNat : Int))) (bcells n (k + 1)) := by
  show _ = _
  apply Array.ext
  · simp [bcells]
  · intro j h1 h2
    have hj : j < 16 := by simpa [bcells] using h2
    rw [Array.getElem_setIfInBounds (by simpa [bcells] using hj)]
    split
    · rename_i e
      subst e
      simp only [bcells, List.getElem_toArray, List.getElem_map, List.getElem_range, bcell]
      rw [show 15 - (15 - k) = k by omega, if_pos (by omega)]
    · rename_i e
      simp only [bcells, List.getElem_toArray, List.getElem_map, List.getElem_range, bcell]
      by_cases hc : 15 - j < k
      · rw [if_pos hc, if_pos (by omega)]
      · rw [if_neg hc, if_neg (by omega)]

set_option maxRecDepth 100000 in
set_option maxHeartbeats 1600000 in
theorem segment_ok (n : Nat) (w : World) (h1 : 1 ≤ n) (h2 : n < 9223372036854775808) :
    Calls Try.prog 12 #[.int .i64 n] w fun e w' => e = .returned (.tuple #[str (seg n), .int .i64 0]) ∧ Only [] w w' := by
  have h1' : (1 : Int) ≤ n := by omega
  go_enter Try.func12, Try.ntmps12
  go_wp2_with fail
  have H0 : Hid (Blk (w.alloc (.cells #[.int .u8 0, .int .u8 0, .int .u8 0, .int .u8 0, .int .u8 0, .int .u8 0, .int .u8 0, .int .u8 0, .int .u8 0, .int .u8 0, .int .u8 0, .int .u8 0, .int .u8 0, .int .u8 0, .int .u8 0, .int .u8 0] 40)) w.heap.size 40 (bcells n 0)) := Lib.hid (Blk.new _ _ _)
  go_loopw [8] (fun i wr => ∃ k : Nat, k ≤ 16 ∧ i = .int .i64 k ∧ Hid (Blk wr w.heap.size 40 (bcells n k)) ∧ Hid (Only [] w wr)) (fun i _ => 16 - (intOf i).toNat)
  case atStart => exact ⟨0, by omega, rfl, H0, Lib.hid (by (repeat (first | with_reducible exact Only.refl _ _ | with_reducible exact Only.refl [] w | with_reducible refine Only.drew ?_ | with_reducible refine Only.drewN ?_ _ | with_reducible refine Only.alloc ?_ _ | ((with_reducible refine Only.setCell ?_ ?_ _); rotate_left; (focus (first | (left; simp; done) | (right; simp; done) | (right; simp; omega) | (right; omega)))))))⟩
  case round =>
    obtain ⟨k, hk, rfl, HB, HO⟩ := hrel
    clear H0
    by_cases hk16 : k < 16
    · have hkz : (k : Int) < 16 := by omega
      have hbits := and_digit n k h2
      obtain ⟨d, hd⟩ : ∃ d, n / 16 ^ k % 16 = d := ⟨_, rfl⟩
      have hd16 : d < 16 := by rw [← hd]; exact Nat.mod_lt _ (by omega)
      have hst := bcells_set n k hk16
      rw [hd] at hbits hst
      rw [← fig_get d hd16] at hst
      have HST := Lib.hid hst
      have hcell : wr.cell? ⟨w.heap.size, 15 - k, none⟩ = some (bcell n k (15 - k)) := (HB.out.cell (15 - k)).trans (bcells_at n k _ (by omega))
      have hfz := HB.out.frozen (15 - k)
      clear hst hd
      go_wp2
      go_roundw
      case measure => simp [intOf]; omega
      case rel => exact ⟨k + 1, by omega, by go_num, Lib.hid (HB.out.set' HST.out), Lib.hid (HO.out.setCell (.inr (by simp)) _)⟩
    · obtain rfl : k = 16 := by omega
      have hconv : (convert 41 9 (.slice (some ⟨w.heap.size, 0, none⟩) 16 16)).run Try.prog wr = .ok (.string ⟨(hexR 16 n).toArray⟩) wr := by
        have := run_convert_bytes_back (P := Try.prog) wr 41 9 5 ⟨w.heap.size, 0, none⟩ 16 (hexR 16 n) Try.underlying41 Try.underlying5 Try.underlying9 (fun j hj => by
          have hj' : j < 16 := by rwa [hexR_length] at hj
          rw [Addr.add_lit, Nat.zero_add, HB.out.cell, bcells_at n 16 j hj', bcell, if_pos (by omega)]
          have := hexR_at 16 n j hj'
          rw [List.getElem?_eq_getElem hj] at this
          injection this with this
          rw [this])
        rwa [hexR_length] at this
      have hsz : (⟨(hexR 16 n).toArray⟩ : ByteArray).size = 16 := by rw [str_size, hexR_length]
      go_wp2_with fail
      go_ret2
      exact ⟨by rw [show str (seg n) = _ from congrArg Value.string (seg_str n).symm]; rfl, HO.out⟩
theorem segment_bad (n : Int) (w : World) (h : n < 1) :
    Calls Try.prog 12 #[.int .i64 n] w fun e w' => e = .returned (.tuple #[str [], .int .i64 1]) ∧ Only [] w w' := by
  go_enter Try.func12, Try.ntmps12
  go_wp2_with fail
  go_ret2
  exact ⟨rfl, by (repeat (first | with_reducible exact Only.refl _ _ | with_reducible exact Only.refl [] w | with_reducible refine Only.drew ?_ | with_reducible refine Only.drewN ?_ _ | with_reducible refine Only.alloc ?_ _ | ((with_reducible refine Only.setCell ?_ ?_ _); rotate_left; (focus (first | (left; simp; done) | (right; simp; done) | (right; simp; omega) | (right; omega))))))⟩
end Go.Proofs.Ytbcckaaleoofhaa
