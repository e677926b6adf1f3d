/-
  The document's own queue: New, room, Look.
-/
import Derived.Test.YtlkfkdcdokinpaaRa
import Derived.BigQuiet
namespace Go.Proofs.Ytlkfkdcdokinpaa
open Go.RowKit Go.Fl

set_option maxHeartbeats 400000 in
theorem rnew_ok (cap bytes : Int) (w : World) (h : May cap bytes) :
    Calls Try.prog 12 #[.int .i64 cap, .int .i64 bytes] w fun e w' => ∃ r, e = .returned (.tuple #[.pointer (some ⟨r, 0, none⟩), .int .i64 0]) ∧ RStep w w' r [] cap bytes [] [] := by
  have HC := Lib.hid (rmay_ok cap bytes w)
  rw [decide_eq_true h] at HC
  obtain ⟨h1, h2, h3, h4⟩ := h
  go_enter Try.func12, Try.ntmps12
  go_wp2_with fail
  refine HC.out.mono ?_
  rintro e w1 ⟨rfl, rfl⟩
  go_wp2
  go_ret2
  refine ⟨_, rfl, [w1.heap.size], ⟨.slice none 0 0, .slice none 0 0, ⟨⟨by simp; omega, h2, by simp [sum]; omega, h4, fun x hx => by simp at hx⟩, fun x hx => by simp at hx, h1, h3, by simp, Blk.new _ _ _, Sl.nil _ _ _, Sl.nil _ _ _, fun g hg => by simp [Value.ownBlock] at hg⟩, fun g hg => by simp [rblocks, Value.ownBlock] at hg ⊢; omega⟩, ?_, ?_⟩
  · (repeat (first | with_reducible exact Only.refl _ _ | with_reducible exact Only.refl [] w1 | with_reducible refine Only.drew ?_ | with_reducible refine Only.drewN ?_ _ | with_reducible refine Only.alloc ?_ _ | ((with_reducible refine Only.setCell ?_ ?_ _); rotate_left; (focus (first | (left; simp; done) | (right; simp; done) | (right; simp; omega) | (right; omega))))))
  · intro g hg; simp at hg; exact .inr (by omega)
theorem rnew_bad (cap bytes : Int) (w : World) (h : ¬ May cap bytes) :
    Calls Try.prog 12 #[.int .i64 cap, .int .i64 bytes] w fun e w' => e = .returned (.tuple #[.pointer none, .int .i64 1]) ∧ Only [] w w' := by
  have HC := Lib.hid (rmay_ok cap bytes w)
  rw [decide_eq_false h] at HC
  go_enter Try.func12, Try.ntmps12
  go_wp2_with fail
  refine HC.out.mono ?_
  rintro e w1 ⟨rfl, rfl⟩
  go_wp2
  go_ret2
  exact ⟨rfl, by (repeat (first | with_reducible exact Only.refl _ _ | with_reducible exact Only.refl [] w1 | with_reducible refine Only.drew ?_ | with_reducible refine Only.drewN ?_ _ | with_reducible refine Only.alloc ?_ _ | ((with_reducible refine Only.setCell ?_ ?_ _); rotate_left; (focus (first | (left; simp; done) | (right; simp; done) | (right; simp; omega) | (right; omega))))))⟩

set_option maxHeartbeats 800000 in
theorem rroom_ok {r : Nat} {cap bytes : Int} {held line : List Item} {iv lv : Value} (size : Int) (w : World) (h : ROk w r cap bytes held line iv lv) (h0 : 0 ≤ size) (h1 : size ≤ 16777216) :
    Calls Try.prog 31 #[.pointer (some ⟨r, 0, none⟩), .int .i64 size] w fun e w' => e = .returned (.bool (hasRoom cap bytes held size)) ∧ ∃ m, w' = w.drewN m := by
  have hl1 := h.okh.len
  have hl2 := h.okh.byt
  have hl3 := sum_nonneg h.okh.sized
  have hl4 := h.okh.cap1
  have hl5 := h.okh.byt1
  have HC : ∀ n, Hid (Calls Try.prog 32 #[iv] (w.drewN n) fun e w' => e = .returned (.int .i64 (sum held)) ∧ w' = w.drewN n) := fun n => Lib.hid (rsum_ok _ (h.I.drewN n) (by omega) h.okh.sized)
  obtain ⟨a, c, hiv, _, _⟩ := h.I.shape
  obtain ⟨hcell, hfz, hlt⟩ := h.B.facts
  subst hiv
  clear h
  by_cases hc : (held.length : Int) < cap
  · have HR := Lib.hid (show hasRoom cap bytes held size = decide (sum held + size ≤ bytes) by
      rw [hasRoom, decide_eq_true hc, Bool.true_and]; exact decide_eq_decide.2 (by omega))
    go_enter Try.func31, Try.ntmps31
    go_wp2
    go_quiet ((go_at_call 32; exact Calls.quiet_of_same (HC _).out))
    go_wp2
    go_ret
    exact ⟨by rw [HR.out]; rfl, _, rfl⟩
  · have HR := Lib.hid (show hasRoom cap bytes held size = false by rw [hasRoom, decide_eq_false hc, Bool.false_and])
    have hcb : decide ((held.length : Int) < cap) = false := decide_eq_false hc
    have hc2 : cap ≤ (held.length : Int) := by omega
    go_enter Try.func31, Try.ntmps31
    go_wp2
    go_quiet (fail)
    go_wp2
    go_ret
    exact ⟨by rw [HR.out]; rfl, _, rfl⟩
end Go.Proofs.Ytlkfkdcdokinpaa
