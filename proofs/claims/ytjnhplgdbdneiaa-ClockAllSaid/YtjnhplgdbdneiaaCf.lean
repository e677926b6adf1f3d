/-
  Floating numbers, in plain words: a word's rank; the order; a sum is no less than what it is made of.
-/
import GoSem.Core.Float
set_option linter.unusedSimpArgs false
set_option linter.unusedVariables false
namespace Go.Proofs.Ytjnhplgdbdneiaa

/-- What a rung comes to, in the least units. -/
def rval (r : Nat) : Nat := if r < 4503599627370496 then r else (4503599627370496 + r % 4503599627370496) * 2 ^ (r / 4503599627370496 - 1)
theorem rval_succ (r : Nat) : rval r < rval (r + 1) := by
  unfold rval
  by_cases h1 : r + 1 < 4503599627370496
  · rw [if_pos h1, if_pos (by omega)]
    omega
  · rw [if_neg h1]
    by_cases h2 : r < 4503599627370496
    · have : r + 1 = 4503599627370496 := by omega
      rw [if_pos h2, this]
      simp
      omega
    · rw [if_neg h2]
      by_cases h3 : (r + 1) % 4503599627370496 = 0
      · have e1 : r % 4503599627370496 = 4503599627370496 - 1 := by omega
        have e2 : (r + 1) / 4503599627370496 - 1 = (r / 4503599627370496 - 1) + 1 := by omega
        rw [h3, e1, e2, Nat.pow_succ, ← Nat.mul_assoc, Nat.mul_comm _ 2, ← Nat.mul_assoc]
        exact Nat.mul_lt_mul_of_pos_right (by omega) (Nat.two_pow_pos _)
      · have e1 : (r + 1) % 4503599627370496 = r % 4503599627370496 + 1 := by omega
        have e2 : (r + 1) / 4503599627370496 = r / 4503599627370496 := by omega
        rw [e1, e2]
        exact Nat.mul_lt_mul_of_pos_right (by omega) (Nat.two_pow_pos _)
theorem rval_lt {r s : Nat} (h : r < s) : rval r < rval s := by
  induction s with
  | zero => omega
  | succ s ih =>
    by_cases e : r = s
    · subst e; exact rval_succ r
    · exact Nat.lt_trans (ih (by omega)) (rval_succ s)
theorem rval_le {r s : Nat} (h : r ≤ s) : rval r ≤ rval s := by
  by_cases e : r = s
  · subst e; exact Nat.le_refl _
  · exact Nat.le_of_lt (rval_lt (by omega))
theorem rval_zero : rval 0 = 0 := rfl
theorem d_sign : Ieee.double.signWeight = 9223372036854775808 := by decide
theorem d_inf : Ieee.double.infRung = 9218868437227405312 := by decide
theorem d_bin : Ieee.double.binade = 4503599627370496 := by decide
theorem d_least : Ieee.double.leastPlace = -1074 := by decide
/-- A finite word, read. -/
theorem read_fin {x : Nat} (h : x % 9223372036854775808 < 9218868437227405312) : ∃ (m : Nat) (k : Nat), Ieee.double.read x = .number (x / 9223372036854775808 % 2 == 1) m (-1074 + (k : Int)) ∧ m * 2 ^ k = rval (x % 9223372036854775808) := by
  unfold Ieee.Format.read rval
  simp only [d_sign, d_inf, d_bin, d_least]
  by_cases h1 : x % 9223372036854775808 < 4503599627370496
  · rw [if_pos h1, if_pos h1]
    exact ⟨x % 9223372036854775808, 0, by simp, by simp⟩
  · rw [if_neg h1, if_pos h, if_neg h1]
    exact ⟨_, _, rfl, rfl⟩
theorem read_inf {x : Nat} (h : x % 9223372036854775808 = 9218868437227405312) : Ieee.double.read x = .infinity (x / 9223372036854775808 % 2 == 1) := by
  unfold Ieee.Format.read
  simp only [d_sign, d_inf, d_bin, d_least]
  rw [h, if_neg (by decide), if_neg (by omega), if_pos rfl]
theorem read_nan {x : Nat} (h : 9218868437227405312 < x % 9223372036854775808) : ∃ k, Ieee.double.read x = .nan (x / 9223372036854775808 % 2 == 1) k := by
  unfold Ieee.Format.read
  simp only [d_sign, d_inf, d_bin, d_least]
  rw [if_neg (by have : 4503599627370496 < 9218868437227405312 := by decide
                 omega), if_neg (by omega), if_neg (by omega)]
  exact ⟨_, rfl⟩
/-- A word's rank: its rung, with its sign. -/
def rk (x : Nat) : Int := if x / 9223372036854775808 % 2 == 1 then -((x % 9223372036854775808 : Nat) : Int) else ((x % 9223372036854775808 : Nat) : Int)
def sgn (s : Bool) (n : Nat) : Int := if s then -(n : Int) else (n : Int)
theorem signed_eq (s : Bool) (m k : Nat) : Ieee.signed s m k = sgn s (m * 2 ^ k) := by
  unfold Ieee.signed sgn
  rw [Nat.shiftLeft_eq]
theorem sgn_mul (s : Bool) (n c : Nat) : sgn s (n * c) = sgn s n * c := by
  unfold sgn
  cases s <;> simp [Int.neg_mul]
theorem cmp_def (a b : Int) : compare a b = if a < b then .lt else if a = b then .eq else .gt := rfl
theorem sgn_cmp {s t : Bool} {a b : Nat} : (sgn s (rval a) < sgn t (rval b) ↔ sgn s a < sgn t b) ∧ (sgn s (rval a) = sgn t (rval b) ↔ sgn s a = sgn t b) := by
  have h0 : ∀ r, r = 0 ∧ rval r = 0 ∨ 0 < r ∧ 0 < rval r := fun r => by
    by_cases h : r = 0
    · subst h; exact .inl ⟨rfl, rfl⟩
    · exact .inr ⟨by omega, by have := rval_lt (r := 0) (s := r) (by omega); rw [rval_zero] at this; exact this⟩
  have ha := h0 a
  have hb := h0 b
  have hc : a < b ∧ rval a < rval b ∨ a = b ∧ rval a = rval b ∨ b < a ∧ rval b < rval a := by
    rcases Nat.lt_trichotomy a b with h | h | h
    · exact .inl ⟨h, rval_lt h⟩
    · subst h; exact .inr (.inl ⟨rfl, rfl⟩)
    · exact .inr (.inr ⟨h, rval_lt h⟩)
  generalize rval a = p at *
  generalize rval b = q at *
  cases s <;> cases t <;> simp only [sgn, if_true, if_false, Bool.false_eq_true] <;> omega
theorem scale_cmp (a b : Int) (c : Nat) (hc : 0 < c) : (a * c < b * c ↔ a < b) ∧ (a * c = b * c ↔ a = b) :=
  ⟨⟨fun h => Int.lt_of_mul_lt_mul_right h (by omega), fun h => Int.mul_lt_mul_of_pos_right h (by omega)⟩, ⟨fun h => Int.eq_of_mul_eq_mul_right (by omega) h, fun h => by rw [h]⟩⟩
theorem min_scaled {m n k j : Nat} : ∃ c : Nat, ((-1074 + (k : Int)) - min (-1074 + (k : Int)) (-1074 + (j : Int))).toNat = k - c ∧ ((-1074 + (j : Int)) - min (-1074 + (k : Int)) (-1074 + (j : Int))).toNat = j - c ∧ c ≤ k ∧ c ≤ j ∧ m * 2 ^ (k - c) * 2 ^ c = m * 2 ^ k ∧ n * 2 ^ (j - c) * 2 ^ c = n * 2 ^ j ∧ min (-1074 + (k : Int)) (-1074 + (j : Int)) = -1074 + (c : Int) := by
  refine ⟨min k j, by omega, by omega, by omega, by omega, ?_, ?_, by omega⟩
  · rw [Nat.mul_assoc, ← Nat.pow_add]; congr 2; omega
  · rw [Nat.mul_assoc, ← Nat.pow_add]; congr 2; omega
theorem rk_sgn (x : Nat) : rk x = sgn (x / 9223372036854775808 % 2 == 1) (x % 9223372036854775808) := rfl
theorem ord_fin {x y : Nat} (hx : x % 9223372036854775808 < 9218868437227405312) (hy : y % 9223372036854775808 < 9218868437227405312) : Ieee.double.order x y = some (if rk x < rk y then .lt else if rk x = rk y then .eq else .gt) := by
  obtain ⟨m, k, e1, v1⟩ := read_fin hx
  obtain ⟨n, j, e2, v2⟩ := read_fin hy
  obtain ⟨c, h1, h2, _, _, h5, h6, _⟩ := min_scaled (m := m) (n := n) (k := k) (j := j)
  show (Ieee.double.read x).order (Ieee.double.read y) = _
  rw [e1, e2]
  show some (compare (Ieee.signed _ m _) (Ieee.signed _ n _)) = _
  rw [signed_eq, signed_eq, h1, h2, cmp_def, rk_sgn, rk_sgn]
  have h7 := scale_cmp (sgn (x / 9223372036854775808 % 2 == 1) (m * 2 ^ (k - c))) (sgn (y / 9223372036854775808 % 2 == 1) (n * 2 ^ (j - c))) (2 ^ c) (Nat.two_pow_pos _)
  rw [← sgn_mul, ← sgn_mul, h5, h6, v1, v2] at h7
  have h8 := sgn_cmp (s := x / 9223372036854775808 % 2 == 1) (t := y / 9223372036854775808 % 2 == 1) (a := x % 9223372036854775808) (b := y % 9223372036854775808)
  congr 1
  simp only [h7.1.symm.trans h8.1, h7.2.symm.trans h8.2]
/-- Is a word a number (infinity, too)? -/
def isN (x : Nat) : Prop := x % 9223372036854775808 ≤ 9218868437227405312
theorem ord_rk {x y : Nat} (hx : isN x) (hy : isN y) : Ieee.double.order x y = some (if rk x < rk y then .lt else if rk x = rk y then .eq else .gt) := by
  unfold isN at hx hy
  by_cases h1 : x % 9223372036854775808 = 9218868437227405312
  · by_cases h2 : y % 9223372036854775808 = 9218868437227405312
    · show (Ieee.double.read x).order (Ieee.double.read y) = _
      rw [read_inf h1, read_inf h2, rk_sgn, rk_sgn, h1, h2]
      cases (x / 9223372036854775808 % 2 == 1) <;> cases (y / 9223372036854775808 % 2 == 1) <;> rfl
    · obtain ⟨n, j, e2, _⟩ := read_fin (x := y) (by omega)
      show (Ieee.double.read x).order (Ieee.double.read y) = _
      rw [read_inf h1, e2, rk_sgn, rk_sgn, h1]
      show some (if _ then _ else _) = _
      have h3 : y % 9223372036854775808 < 9218868437227405312 := by omega
      generalize y % 9223372036854775808 = b at *
      have hI : (0 : Nat) < 9218868437227405312 := by decide
      
      cases (x / 9223372036854775808 % 2 == 1) <;> cases (y / 9223372036854775808 % 2 == 1) <;> simp only [sgn, if_true, if_false, Bool.false_eq_true] <;>
        first
        | (rw [if_pos (by omega)]; done)
        | (rw [if_neg (by omega), if_neg (by omega)]; done)
  · by_cases h2 : y % 9223372036854775808 = 9218868437227405312
    · obtain ⟨n, j, e2, _⟩ := read_fin (x := x) (by omega)
      show (Ieee.double.read x).order (Ieee.double.read y) = _
      rw [read_inf h2, e2, rk_sgn, rk_sgn, h2]
      show some (if _ then _ else _) = _
      have h3 : x % 9223372036854775808 < 9218868437227405312 := by omega
      generalize x % 9223372036854775808 = b at *
      have hI : (0 : Nat) < 9218868437227405312 := by decide
      
      cases (x / 9223372036854775808 % 2 == 1) <;> cases (y / 9223372036854775808 % 2 == 1) <;> simp only [sgn, if_true, if_false, Bool.false_eq_true] <;>
        first
        | (rw [if_pos (by omega)]; done)
        | (rw [if_neg (by omega), if_neg (by omega)]; done)
    · exact ord_fin (by omega) (by omega)
theorem ord_nan {x y : Nat} (h : ¬ isN x ∨ ¬ isN y) : Ieee.double.order x y = none := by
  unfold isN at h
  show (Ieee.double.read x).order (Ieee.double.read y) = _
  rcases h with h | h
  · obtain ⟨k, e⟩ := read_nan (x := x) (by omega)
    rw [e]
    rfl
  · obtain ⟨k, e⟩ := read_nan (x := y) (by omega)
    rw [e]
    cases Ieee.double.read x <;> rfl
/-- The rung that a number of least units is rounded to. -/
def rnd (N : Nat) : Nat := min ((N.log2 - 52) * 4503599627370496 + (N / 2 ^ (N.log2 - 52) + (decide (2 ^ (N.log2 - 52) < 2 * (N % 2 ^ (N.log2 - 52))) || (2 ^ (N.log2 - 52) == 2 * (N % 2 ^ (N.log2 - 52)) && N / 2 ^ (N.log2 - 52) % 2 == 1)).toNat)) 9218868437227405312
theorem log2_scale {m s : Nat} (h : m ≠ 0) : (m * 2 ^ s).log2 = m.log2 + s := by
  have h1 : m * 2 ^ s ≠ 0 := Nat.mul_ne_zero h (by have := Nat.two_pow_pos s; omega)
  rw [Nat.log2_eq_iff h1]
  have h2 := (Nat.log2_eq_iff h).1 rfl
  refine ⟨?_, ?_⟩
  · rw [Nat.pow_add]
    exact Nat.mul_le_mul_right _ h2.1
  · rw [show m.log2 + s + 1 = (m.log2 + 1) + s by omega, Nat.pow_add]
    exact Nat.mul_lt_mul_of_pos_right h2.2 (Nat.two_pow_pos _)
/-- Half up, ties to even. -/
def carry (N t : Nat) : Nat := (decide (2 ^ t < 2 * (N % 2 ^ t)) || (2 ^ t == 2 * (N % 2 ^ t) && N / 2 ^ t % 2 == 1)).toNat
theorem cut_eq (n d : Nat) (h : d ≤ n.log2 + 2) : Ieee.Toward.even.cut false n d = n / 2 ^ d + carry n d := by
  unfold Ieee.Toward.cut carry
  rw [Nat.min_eq_left h, Nat.one_shiftLeft]
theorem carry_zero (n : Nat) : carry n 0 = 0 := by
  unfold carry
  simp [Nat.mod_one]
theorem carry_scale (m s t : Nat) (h : s ≤ t) : carry (m * 2 ^ s) t = carry m (t - s) := by
  obtain ⟨d, rfl⟩ : ∃ d, t = d + s := ⟨t - s, by omega⟩
  have hp := Nat.two_pow_pos s
  unfold carry
  rw [Nat.add_sub_cancel, Nat.pow_add, Nat.mul_mod_mul_right, Nat.mul_div_mul_right _ _ hp, ← Nat.mul_assoc]
  have e1 : (2 ^ d * 2 ^ s < 2 * (m % 2 ^ d) * 2 ^ s) ↔ (2 ^ d < 2 * (m % 2 ^ d)) := ⟨fun h => Nat.lt_of_mul_lt_mul_right h, fun h => Nat.mul_lt_mul_of_pos_right h hp⟩
  have e2 : (2 ^ d * 2 ^ s == 2 * (m % 2 ^ d) * 2 ^ s) = (2 ^ d == 2 * (m % 2 ^ d)) := by
    rw [Bool.eq_iff_iff, beq_iff_eq, beq_iff_eq]
    exact ⟨fun h => Nat.eq_of_mul_eq_mul_right hp h, fun h => congrArg (· * 2 ^ s) h⟩
  rw [decide_eq_decide.2 e1, e2]
theorem rnd_eq (N : Nat) : rnd N = min ((N.log2 - 52) * 4503599627370496 + (N / 2 ^ (N.log2 - 52) + carry N (N.log2 - 52))) 9218868437227405312 := by
  unfold rnd carry
  rfl
theorem d_frac : Ieee.double.fractionBits = 52 := rfl
theorem d_word (r : Nat) : Ieee.double.word false r = r := rfl
theorem nearest_eq {m s : Nat} (h : m ≠ 0) : Ieee.double.nearest false m (-1074 + (s : Int)) = rnd (m * 2 ^ s) := by
  unfold Ieee.Format.nearest
  rw [if_neg h, d_word, rnd_eq, log2_scale h, d_inf, d_bin, d_least, d_frac]
  have hlast : max (-1074 + (s : Int) + (m.log2 : Int) - ((52 : Nat) : Int)) (-1074) = -1074 + ((m.log2 + s - 52 : Nat) : Int) := by omega
  rw [hlast, show (-1074 + ((m.log2 + s - 52 : Nat) : Int) - -1074).toNat = m.log2 + s - 52 by omega]
  have key : Ieee.Toward.even.cut false (m <<< (-1074 + (s : Int) - (-1074 + ((m.log2 + s - 52 : Nat) : Int))).toNat) (-1074 + ((m.log2 + s - 52 : Nat) : Int) - (-1074 + (s : Int))).toNat = m * 2 ^ s / 2 ^ (m.log2 + s - 52) + carry (m * 2 ^ s) (m.log2 + s - 52) := by
    by_cases hc : m.log2 + s - 52 ≤ s
    · generalize m.log2 + s - 52 = t at *
      obtain ⟨d, rfl⟩ : ∃ d, s = d + t := ⟨s - t, by omega⟩
      rw [show (-1074 + ((d + t : Nat) : Int) - (-1074 + (t : Int))).toNat = d by omega, show (-1074 + (t : Int) - (-1074 + ((d + t : Nat) : Int))).toNat = 0 by omega, cut_eq _ _ (by omega), carry_zero, Nat.shiftLeft_eq, Nat.pow_zero, Nat.div_one,
        Nat.pow_add, ← Nat.mul_assoc, Nat.mul_div_cancel _ (Nat.two_pow_pos t)]
      have e := carry_scale (m * 2 ^ d) t t (Nat.le_refl _)
      rw [e, Nat.sub_self, carry_zero]
    · have hd : (-1074 + ((m.log2 + s - 52 : Nat) : Int) - (-1074 + (s : Int))).toNat = m.log2 + s - 52 - s := by omega
      have hd2 : m.log2 + s - 52 - s ≤ m.log2 + 2 := by omega
      rw [show (-1074 + (s : Int) - (-1074 + ((m.log2 + s - 52 : Nat) : Int))).toNat = 0 by omega, hd, Nat.shiftLeft_zero, cut_eq _ _ hd2, carry_scale _ _ _ (by omega)]
      congr 1
      obtain ⟨d, hd3⟩ : ∃ d, m.log2 + s - 52 = d + s := ⟨m.log2 + s - 52 - s, by omega⟩
      rw [hd3, Nat.add_sub_cancel, Nat.pow_add, Nat.mul_div_mul_right _ _ (Nat.two_pow_pos s)]
  rw [key]
/-- The rung at or below a number of least units. -/
def flo (N : Nat) : Nat := (N.log2 - 52) * 4503599627370496 + N / 2 ^ (N.log2 - 52)
theorem flo_read {N : Nat} (h : N ≠ 0) : (N.log2 - 52 = 0 ∧ flo N = N ∧ N < 9007199254740992) ∨ (0 < N.log2 - 52 ∧ 4503599627370496 ≤ N / 2 ^ (N.log2 - 52) ∧ N / 2 ^ (N.log2 - 52) < 9007199254740992) := by
  have h2 := (Nat.log2_eq_iff h).1 rfl
  by_cases ht : N.log2 - 52 = 0
  · refine .inl ⟨ht, by unfold flo; rw [ht]; simp, ?_⟩
    have h3 : 2 ^ (N.log2 + 1) ≤ 2 ^ 53 := Nat.pow_le_pow_right (by omega) (by omega)
    have h4 : (2 : Nat) ^ 53 = 9007199254740992 := by decide
    omega
  · refine .inr ⟨by omega, ?_, ?_⟩
    · rw [Nat.le_div_iff_mul_le (Nat.two_pow_pos _)]
      have e : (2 : Nat) ^ N.log2 = 4503599627370496 * 2 ^ (N.log2 - 52) := by
        rw [show (4503599627370496 : Nat) = 2 ^ 52 by decide, ← Nat.pow_add]
        congr 1
        omega
      omega
    · rw [Nat.div_lt_iff_lt_mul (Nat.two_pow_pos _)]
      have e : (2 : Nat) ^ (N.log2 + 1) = 9007199254740992 * 2 ^ (N.log2 - 52) := by
        rw [show (9007199254740992 : Nat) = 2 ^ 53 by decide, ← Nat.pow_add]
        congr 1
        omega
      omega
theorem rval_at {t q : Nat} (h1 : 4503599627370496 ≤ q) (h2 : q < 9007199254740992) : rval (t * 4503599627370496 + q) = q * 2 ^ t := by
  unfold rval
  rw [if_neg (by omega), show (t * 4503599627370496 + q) % 4503599627370496 = q - 4503599627370496 by omega, show (t * 4503599627370496 + q) / 4503599627370496 - 1 = t by omega, show 4503599627370496 + (q - 4503599627370496) = q by omega]
theorem rval_top {t q : Nat} (h1 : 4503599627370496 ≤ q) (h2 : q ≤ 9007199254740992) : rval (t * 4503599627370496 + q) = q * 2 ^ t := by
  by_cases h : q < 9007199254740992
  · exact rval_at h1 h
  · obtain rfl : q = 9007199254740992 := by omega
    have := rval_at (t := t + 1) (q := 4503599627370496) (by omega) (by omega)
    rw [show t * 4503599627370496 + 9007199254740992 = (t + 1) * 4503599627370496 + 4503599627370496 by omega, this, Nat.pow_succ]
    omega
theorem rval_low {r : Nat} (h : r ≤ 9007199254740992) : rval r = r := by
  by_cases h1 : r < 4503599627370496
  · unfold rval
    rw [if_pos h1]
  · have := rval_top (t := 0) (q := r) (by omega) h
    simpa using this
theorem flo_le {N : Nat} (h : N ≠ 0) : rval (flo N) ≤ N ∧ N < rval (flo N + 1) := by
  rcases flo_read h with ⟨ht, he, hN⟩ | ⟨ht, h1, h2⟩
  · rw [he, rval_low (by omega), rval_low (by omega)]
    omega
  · unfold flo
    rw [rval_at h1 h2, Nat.add_assoc, rval_top (by omega) (by omega)]
    have h3 := Nat.div_add_mod N (2 ^ (N.log2 - 52))
    have h4 := Nat.mod_lt N (Nat.two_pow_pos (N.log2 - 52))
    rw [Nat.add_mul, Nat.one_mul, Nat.mul_comm (N / _)]
    omega
theorem carry_le (N t : Nat) : carry N t ≤ 1 := by
  unfold carry
  generalize (_ || _) = b
  cases b <;> simp
theorem rnd_flo (N : Nat) : rnd N = min (flo N + carry N (N.log2 - 52)) 9218868437227405312 := by
  rw [rnd_eq, flo, Nat.add_assoc]
theorem rnd_exact {r : Nat} (h : r ≤ 9218868437227405312) : rnd (rval r) = r := by
  by_cases h0 : r = 0
  · subst h0
    decide
  have hv : rval r ≠ 0 := by have := rval_lt (r := 0) (s := r) (by omega); rw [rval_zero] at this; omega
  have h1 := flo_le hv
  have hf : flo (rval r) = r := by
    rcases Nat.lt_trichotomy (flo (rval r)) r with h | h | h
    · have := rval_le (r := flo (rval r) + 1) (s := r) (by omega)
      omega
    · exact h
    · have := rval_lt h
      omega
  have hc : carry (rval r) ((rval r).log2 - 52) = 0 := by
    have hm : rval r % 2 ^ ((rval r).log2 - 52) = 0 := by
      rcases flo_read hv with ⟨ht, _, _⟩ | ⟨ht, h2, h3⟩
      · rw [ht]; exact Nat.mod_one _
      · have e : rval r = rval r / 2 ^ ((rval r).log2 - 52) * 2 ^ ((rval r).log2 - 52) := by
          have := rval_at (t := (rval r).log2 - 52) h2 h3
          rw [← this]
          congr 1
          exact hf.symm
        rw [e]
        have : ∀ a b c : Nat, c = b → a * b % c = 0 := fun a b c h => by rw [h]; exact Nat.mul_mod_left _ _
        exact this _ _ _ (by rw [← e])
    unfold carry
    rw [hm]
    have hp := Nat.two_pow_pos ((rval r).log2 - 52)
    generalize 2 ^ ((rval r).log2 - 52) = p at *
    have : (p == 2 * 0) = false := by rw [beq_eq_false_iff_ne]; omega
    simp [this]
  rw [rnd_flo, hf, hc]
  omega
theorem rnd_ge {r N : Nat} (hr : r ≤ 9218868437227405312) (h : rval r ≤ N) : r ≤ rnd N := by
  by_cases h0 : N = 0
  · subst h0
    have : r = 0 := by
      rcases Nat.eq_zero_or_pos r with e | e
      · exact e
      · have := rval_lt e
        omega
    omega
  have h1 := flo_le h0
  have h2 : r ≤ flo N := by
    rcases Nat.lt_or_ge (flo N) r with h3 | h3
    · have := rval_le (r := flo N + 1) (s := r) (by omega)
      omega
    · exact h3
  rw [rnd_flo]
  omega
theorem rnd_le {r N : Nat} (hr : r ≤ 9218868437227405312) (h : N ≤ rval r) : rnd N ≤ r := by
  by_cases he : N = rval r
  · rw [he, rnd_exact hr]
    exact Nat.le_refl _
  by_cases h0 : N = 0
  · subst h0
    have : rnd 0 = 0 := by decide
    omega
  have h1 := flo_le h0
  have h2 : flo N < r := by
    rcases Nat.lt_or_ge (flo N) r with h3 | h3
    · exact h3
    · have := rval_le h3
      omega
  have := carry_le N (N.log2 - 52)
  rw [rnd_flo]
  omega
/-- The sum of two that are not below 0. -/
theorem add_fin {x y : Nat} (hx : x < 9218868437227405312) (hy : y < 9218868437227405312) : Ieee.double.add x y = some (rnd (rval x + rval y)) := by
  obtain ⟨m, k, e1, v1⟩ := read_fin (x := x) (by omega)
  obtain ⟨n, j, e2, v2⟩ := read_fin (x := y) (by omega)
  obtain ⟨c, h1, h2, _, _, h5, h6, h7⟩ := min_scaled (m := m) (n := n) (k := k) (j := j)
  rw [show (x / 9223372036854775808 % 2 == 1) = false by rw [show x / 9223372036854775808 = 0 by omega]; rfl] at e1
  rw [show (y / 9223372036854775808 % 2 == 1) = false by rw [show y / 9223372036854775808 = 0 by omega]; rfl] at e2
  rw [show x % 9223372036854775808 = x by omega] at v1
  rw [show y % 9223372036854775808 = y by omega] at v2
  show ((Ieee.double.read x).sum (Ieee.double.read y)).map Ieee.double.write = _
  rw [e1, e2]
  show some (Ieee.double.nearest _ (Ieee.signed false m _ + Ieee.signed false n _).natAbs _) = _
  rw [signed_eq, signed_eq, h1, h2, h7]
  congr 1
  have e3 : sgn false (m * 2 ^ (k - c)) + sgn false (n * 2 ^ (j - c)) = ((m * 2 ^ (k - c) + n * 2 ^ (j - c) : Nat) : Int) := by
    show ((m * 2 ^ (k - c) : Nat) : Int) + ((n * 2 ^ (j - c) : Nat) : Int) = _
    omega
  have e4 : (m * 2 ^ (k - c) + n * 2 ^ (j - c)) * 2 ^ c = rval x + rval y := by
    rw [Nat.add_mul, h5, h6, v1, v2]
  rw [e3, Int.natAbs_natCast]
  generalize m * 2 ^ (k - c) + n * 2 ^ (j - c) = T at *
  by_cases h0 : T = 0
  · subst h0
    rw [← e4]
    rw [Nat.zero_mul, show rnd 0 = 0 by decide]
    rfl
  · rw [← e4, ← nearest_eq h0]
    congr 1
    rw [if_neg (by omega)]
    simp
theorem add_inf {x : Nat} (hx : x < 9218868437227405312) : Ieee.double.add x 9218868437227405312 = some 9218868437227405312 := by
  obtain ⟨m, k, e1, v1⟩ := read_fin (x := x) (by omega)
  show ((Ieee.double.read x).sum (Ieee.double.read 9218868437227405312)).map Ieee.double.write = _
  rw [e1, read_inf (by decide)]
  rfl
end Go.Proofs.Ytjnhplgdbdneiaa
