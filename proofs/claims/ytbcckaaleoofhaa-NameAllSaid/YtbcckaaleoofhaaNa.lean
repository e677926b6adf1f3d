/-
  Names of segments as lists of bytes: sixteen figures; their order is the numbers' order. No program in sight.
-/
import Derived.Laws.Strings
import Derived.KernelRfl
namespace Go.Fl
open Go.Op

def dig (d : Nat) : UInt8 := if d < 10 then UInt8.ofNat (48 + d) else UInt8.ofNat (87 + d)
def hexR : Nat → Nat → List UInt8
  | 0, _ => []
  | k + 1, n => dig (n / 16 ^ k % 16) :: hexR k n
def segFront : List UInt8 := [115, 101, 103, 45]
def segBack : List UInt8 := [46, 108, 111, 103]
def seg (n : Nat) : List UInt8 := segFront ++ (hexR 16 n ++ segBack)
def figs : List UInt8 := [48, 49, 50, 51, 52, 53, 54, 55, 56, 57, 97, 98, 99, 100, 101, 102]

theorem dig_lt : ∀ x < 16, ∀ y < 16, (decide (dig x < dig y)) = decide (x < y) := by decide
theorem dig_eq : ∀ x < 16, ∀ y < 16, (dig x == dig y) = (x == y) := by decide
theorem figs_at : ∀ x < 16, figs[x]? = some (dig x) := by decide
theorem hexR_length : ∀ k n, (hexR k n).length = k
  | 0, _ => rfl
  | k + 1, n => by rw [hexR, List.length_cons, hexR_length k n]
theorem seg_length (n : Nat) : (seg n).length = 24 := by simp [seg, segFront, segBack, hexR_length]

theorem bytesLess_irrefl : ∀ x : List UInt8, bytesLess x x = false
  | [] => rfl
  | a :: x => by simp [bytesLess, bytesLess_irrefl x]
theorem bytesLess_front : ∀ t x y : List UInt8, bytesLess (t ++ x) (t ++ y) = bytesLess x y
  | [], _, _ => rfl
  | a :: t, x, y => by simp [bytesLess, bytesLess_front t x y]
theorem bytesLess_back : ∀ x y t : List UInt8, x.length = y.length → bytesLess (x ++ t) (y ++ t) = bytesLess x y
  | [], [], t, _ => bytesLess_irrefl t
  | [], _ :: _, _, h => by simp at h
  | _ :: _, [], _, h => by simp at h
  | a :: x, b :: y, t, h => by simp [bytesLess, bytesLess_back x y t (by simpa using h)]
theorem hexR_less : ∀ (k a b : Nat), bytesLess (hexR k a) (hexR k b) = decide (a % 16 ^ k < b % 16 ^ k)
  | 0, a, b => by simp [hexR, bytesLess, Nat.mod_one]
  | k + 1, a, b => by
    have h0 : 0 < 16 ^ k := Nat.pow_pos (by omega)
    have ha : a % 16 ^ (k + 1) = (a / 16 ^ k % 16) * 16 ^ k + a % 16 ^ k := by rw [Nat.pow_succ, Nat.mod_mul, Nat.mul_comm, Nat.add_comm]
    have hb : b % 16 ^ (k + 1) = (b / 16 ^ k % 16) * 16 ^ k + b % 16 ^ k := by rw [Nat.pow_succ, Nat.mod_mul, Nat.mul_comm, Nat.add_comm]
    have hda : a / 16 ^ k % 16 < 16 := Nat.mod_lt _ (by omega)
    have hdb : b / 16 ^ k % 16 < 16 := Nat.mod_lt _ (by omega)
    have hra : a % 16 ^ k < 16 ^ k := Nat.mod_lt _ h0
    have hrb : b % 16 ^ k < 16 ^ k := Nat.mod_lt _ h0
    rw [hexR, hexR, bytesLess, hexR_less k a b, ha, hb, dig_lt _ hda _ hdb, dig_eq _ hda _ hdb]
    generalize a / 16 ^ k % 16 = x at *
    generalize b / 16 ^ k % 16 = y at *
    generalize a % 16 ^ k = p at *
    generalize b % 16 ^ k = q at *
    generalize 16 ^ k = M at *
    rcases Nat.lt_trichotomy x y with h | h | h
    · have h1 : (x + 1) * M ≤ y * M := Nat.mul_le_mul_right _ h
      rw [Nat.add_mul] at h1
      simp [h]; omega
    · subst h; simp
    · have h1 : (y + 1) * M ≤ x * M := Nat.mul_le_mul_right _ h
      rw [Nat.add_mul] at h1
      have e1 : ¬ x < y := by omega
      have e2 : (x == y) = false := by simp; omega
      simp [e1, e2]; omega
theorem seg_less {a b : Nat} (ha : a < 16 ^ 16) (hb : b < 16 ^ 16) : bytesLess (seg a) (seg b) = decide (a < b) := by
  rw [seg, seg, bytesLess_front, bytesLess_back _ _ _ (by rw [hexR_length, hexR_length]), hexR_less, Nat.mod_eq_of_lt ha, Nat.mod_eq_of_lt hb]
theorem seg_inj {a b : Nat} (ha : a < 16 ^ 16) (hb : b < 16 ^ 16) : (seg a == seg b) = (a == b) := by
  rw [Bool.eq_iff_iff]
  simp only [beq_iff_eq]
  constructor
  · intro h
    have h1 := seg_less ha hb
    have h2 := seg_less hb ha
    rw [h, bytesLess_irrefl] at h1
    rw [h, bytesLess_irrefl] at h2
    have := of_decide_eq_false h1.symm
    have := of_decide_eq_false h2.symm
    omega
  · rintro rfl; rfl
end Go.Fl
