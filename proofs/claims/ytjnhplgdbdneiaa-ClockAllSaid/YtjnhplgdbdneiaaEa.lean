/-
  ClockOrder, in plain words: the time goes on, and stays finite.
-/
import Derived.Test.YtjnhplgdbdneiaaDp
import Derived.Test.YtjnhplgdbdneiaaCg
import Derived.Test.YtjnhplgdbdneiaaArgs3
set_option linter.unusedSimpArgs false
set_option linter.unusedVariables false
namespace Go.Proofs.Ytjnhplgdbdneiaa
open Go.RowKit Go.Fl Go.ChangeShapes Go.WideShapes

theorem addW_zero {t : Nat} (h : t ≤ 9218868437227405312) : addW 0 t = t := by
  unfold addW
  by_cases e : t = 9218868437227405312
  · rw [if_pos e, e]
  · rw [if_neg e, rval_zero, Nat.zero_add, rnd_exact h]
theorem addW_ge {now t : Nat} (hn : now ≤ 9218868437227405312) : now ≤ addW now t := by
  unfold addW
  split
  · exact hn
  · exact rnd_ge hn (Nat.le_add_right _ _)
/-- A power of two's rung. -/
def pw (k : Nat) : Nat := (1043 + k) * 4503599627370496
theorem pw_val (k : Nat) : rval (pw k) = 4503599627370496 * 2 ^ (1042 + k) := by
  unfold rval pw
  rw [if_neg (by omega), Nat.mul_mod_left, Nat.mul_div_cancel _ (by omega), show 1043 + k - 1 = 1042 + k by omega]
theorem pw_le {k : Nat} (h : k ≤ 1000) : pw k ≤ 9218868437227405312 := by unfold pw; omega
theorem addW_pw {now t k : Nat} (hk : k + 1 ≤ 1000) (hn : now ≤ pw k) (ht : t ≤ pw 0) : addW now t ≤ pw (k + 1) := by
  have h0 : pw 0 < 9218868437227405312 := by decide
  unfold addW
  rw [if_neg (by omega)]
  refine rnd_le (pw_le hk) ?_
  have h1 := rval_le hn
  have h2 := rval_le ht
  rw [pw_val] at h1 h2 ⊢
  obtain ⟨e, he⟩ : ∃ e, e = 1042 := ⟨_, rfl⟩
  rw [← he] at h1 h2 ⊢
  have h3 : (2 : Nat) ^ (e + 0) ≤ 2 ^ (e + k) := Nat.pow_le_pow_right (by omega) (by omega)
  have h4 : (2 : Nat) ^ (e + (k + 1)) = 2 ^ (e + k) * 2 := by rw [show e + (k + 1) = e + k + 1 by omega, Nat.pow_succ]
  rw [h4]
  clear he h4
  generalize (2 : Nat) ^ (e + k) = p at *
  generalize (2 : Nat) ^ (e + 0) = q at *
  omega
/-- A step between two bounds is a rung. -/
theorem step_ok {x : Nat} (hx : x < 18446744073709551616) (h1 : (ford x 4562254508917369340 == some .gt) = true) (h2 : (ford x 4696837146684686336 == some .lt) = true) : x ≤ pw 0 := by
  have hN : isN x := by
    rcases Nat.lt_or_ge 9218868437227405312 (x % 9223372036854775808) with h | h
    · exfalso
      rw [ford_nan (.inl (by unfold isN; omega))] at h1
      cases h1
    · exact h
  have hc1 := rk_le (x := 4562254508917369340) (by decide)
  have hc2 := rk_le (x := 4696837146684686336) (by decide)
  rw [ford_gt hN hc1.2, hc1.1] at h1
  rw [ford_lt hN hc2.2, hc2.1] at h2
  have h3 := of_decide_eq_true h1
  have h4 := of_decide_eq_true h2
  unfold pw
  rcases rk_cases x with ⟨hs, h⟩ | ⟨hs, h⟩ <;> rw [h] at h3 h4 <;> omega
/-- A length of time and 0: without its sign. -/
theorem add_zero_raw {d : Nat} (hd : d < 18446744073709551616) (h : plB d = true) : Ieee.double.add d 0 = some (plV d) := by
  have hp := plB_le hd h
  by_cases hz : d % 9223372036854775808 = 0
  · have hv : plV d = 0 := by omega
    rw [hv]
    have : d = 0 ∨ d = 9223372036854775808 := by omega
    rcases this with rfl | rfl
    · decide +kernel
    · decide +kernel
  · have hd2 : d = plV d := by
      unfold plV
      rw [if_neg hz]
    have hle : d ≤ 9218868437227405312 := by omega
    rw [← hd2]
    by_cases hi : d = 9218868437227405312
    · subst hi
      decide +kernel
    · have h1 := add_fin (x := d) (y := 0) (by omega) (by decide)
      rw [h1, rval_zero, Nat.add_zero, rnd_exact hle]
/-- A raw length of time stands to a rung as its time does. -/
theorem raw_lt {d t : Nat} (hd : d < 18446744073709551616) (h : plB d = true) (ht : t ≤ 9218868437227405312) : (ford d t == some .lt) = decide (plV d < t) ∧ (ford d t == some .eq) = decide (plV d = t) := by
  have hp := plB_le hd h
  have hN : isN d := (of_decide_eq_true h).1
  have hr : rk d = (plV d : Int) := by
    have h0 := (of_decide_eq_true h).2
    rw [hp.2]
    rcases rk_cases d with ⟨_, e⟩ | ⟨_, e⟩ <;> rw [e] at h0 ⊢
    omega
  rw [ford_lt hN (rk_le ht).2, ford_eq hN (rk_le ht).2, hr, (rk_le ht).1]
  exact ⟨decide_eq_decide.2 (by omega), decide_eq_decide.2 (by omega)⟩
/-- In order, parted at a time. -/
theorem srt_part {t : Nat} : ∀ {L : List Tm}, Srt L → (∀ y ∈ L.takeWhile (fun y => decide (y.2 ≤ t)), y.2 ≤ t) ∧ ∀ y ∈ L.dropWhile (fun y => decide (y.2 ≤ t)), t < y.2
  | [], _ => ⟨fun y hy => (by cases hy), fun y hy => (by cases hy)⟩
  | x :: L, h => by
    have ih := srt_part (t := t) (List.pairwise_cons.1 h).2
    by_cases hx : x.2 ≤ t
    · rw [List.takeWhile_cons_of_pos (by simpa using hx), List.dropWhile_cons_of_pos (by simpa using hx)]
      refine ⟨fun y hy => ?_, ih.2⟩
      rcases List.mem_cons.1 hy with rfl | hy
      · exact hx
      · exact ih.1 y hy
    · rw [List.takeWhile_cons_of_neg (by simpa using hx), List.dropWhile_cons_of_neg (by simpa using hx)]
      refine ⟨fun y hy => by (cases hy), fun y hy => ?_⟩
      rcases List.mem_cons.1 hy with rfl | hy
      · omega
      · have := (List.pairwise_cons.1 h).1 y hy
        rw [tlt_iff] at this
        omega
theorem srt_head {t : Nat} {B : List Tm} (h : Srt B) (hh : ∀ x ∈ B.head?, t < x.2) : ∀ y ∈ B, t < y.2 := by
  cases B with
  | nil => intro y hy; cases hy
  | cons x B =>
    intro y hy
    have hx := hh x rfl
    rcases List.mem_cons.1 hy with rfl | hy
    · exact hx
    · have := (List.pairwise_cons.1 h).1 y hy
      rw [tlt_iff] at this
      omega
/-- The timers of lengths of time, from number k on. -/
def tms : List Nat → Nat → List Tm
  | [], _ => []
  | d :: ds, k => ((k : Int) + 1, plV d) :: tms ds (k + 1)
theorem tms_append : ∀ (a b : List Nat) (k : Nat), tms (a ++ b) k = tms a k ++ tms b (k + a.length)
  | [], b, k => rfl
  | d :: a, b, k => by
    show _ :: tms (a ++ b) (k + 1) = _
    rw [tms_append a b (k + 1), List.length_cons, show k + 1 + a.length = k + (a.length + 1) by omega]
    rfl
theorem tms_len : ∀ (a : List Nat) (k : Nat), (tms a k).length = a.length
  | [], _ => rfl
  | d :: a, k => by show (tms a (k + 1)).length + 1 = _; rw [tms_len a (k + 1)]; rfl
theorem tms_mem : ∀ {a : List Nat} {k : Nat} {x : Tm}, x ∈ tms a k ↔ ∃ i, ∃ (h : i < a.length), x = (((k + i : Nat) : Int) + 1, plV a[i])
  | [], k, x => ⟨fun h => (by cases h), fun ⟨i, h, _⟩ => absurd h (Nat.not_lt_zero _)⟩
  | d :: a, k, x => by
    constructor
    · intro h
      rcases List.mem_cons.1 h with rfl | h
      · exact ⟨0, by simp, rfl⟩
      · obtain ⟨i, hi, rfl⟩ := tms_mem.1 h
        exact ⟨i + 1, by simpa using hi, by simp only [List.getElem_cons_succ, Prod.mk.injEq, and_true]; omega⟩
    · rintro ⟨i, hi, rfl⟩
      cases i with
      | zero => exact List.mem_cons_self
      | succ i =>
        refine List.mem_cons_of_mem _ (tms_mem.2 ⟨i, by simpa using hi, ?_⟩)
        simp only [List.getElem_cons_succ, Prod.mk.injEq, and_true]
        omega
/-- One more is set. -/
theorem tms_push {l L : List Tm} {ats : List Nat} {d : Nat} (h : Rel l L) (hp : L.Perm (tms ats 0)) :
    ∃ L', Rel (hpush l ((ats.length : Int) + 1, plV d)) L' ∧ L'.Perm (tms (ats ++ [d]) 0) := by
  have hs := srt_part (t := plV d) h.srt
  have he := List.takeWhile_append_dropWhile (p := fun y : Tm => decide (y.2 ≤ plV d)) (l := L)
  rw [← he] at h
  refine ⟨_, Rel.push (x := ((ats.length : Int) + 1, plV d)) h hs.1 hs.2 fun y hy => ?_, ?_⟩
  · have h1 : y ∈ tms ats 0 := hp.mem_iff.1 (by rw [← he]; exact List.mem_append_left _ hy)
    obtain ⟨i, hi, rfl⟩ := tms_mem.1 h1
    show ((0 + i : Nat) : Int) + 1 < (ats.length : Int) + 1
    omega
  · rw [tms_append]
    refine List.perm_middle.trans ?_
    rw [he]
    refine ((List.perm_cons _).2 hp).trans ?_
    have : tms [d] (0 + ats.length) = [((ats.length : Int) + 1, plV d)] := by
      show [(((0 + ats.length : Nat) : Int) + 1, plV d)] = _
      rw [Nat.zero_add]
    rw [this]
    exact (List.perm_append_singleton _ _).symm
theorem open_u64s {H : Type} {enc : TypeId × Value → H} {P : Program} {w : World} {r : Reach} {b0 : Nat} {t e : TypeId} {v : Value} {d : DataW H} {ps : List MemPlace} (ht : P.underlying t = some (.slice e)) (hk : P.cellsOf e = 1) (he : P.underlying e = some (.int .u64))
    (hval : Value.okWide P w r b0 t v) (h : DataW.Trod enc P w 0 (fun _ => true) true t v d ps) : ∃ l : List Nat, Row (fun s : Nat => .int .u64 s) w v l ∧ ∀ i (h : i < l.length), l[i] < 18446744073709551616 :=
  open_row (f := fun s : Nat => .int .u64 s) (p := fun s => s < 18446744073709551616) ht hk (fun fuel cs x hd => by
    obtain ⟨n, h1, _, h3⟩ := DataW.trod_int he hd
    simp only [Lit.wf, IntKind.min, IntKind.max, IntKind.bits, IntKind.signed] at h3
    simp at h3
    refine ⟨n.toNat, ?_, by omega⟩
    rw [h1]
    congr 2
    omega) hval h
end Go.Proofs.Ytjnhplgdbdneiaa
