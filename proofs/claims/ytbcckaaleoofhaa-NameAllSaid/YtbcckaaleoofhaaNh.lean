/-
  slices.Sort of three texts: Less, bits.Len, the insertion sort.
-/
import Derived.Test.YtbcckaaleoofhaaNg
import Derived.BigQuiet
namespace Go.Proofs.Ytbcckaaleoofhaa
open Go.RowKit Go.Fl

abbrev tA : Value := .string ⟨#[97]⟩
abbrev tB : Value := .string ⟨#[98]⟩

theorem nan_ok (s : ByteArray) (w : World) : Calls Try.prog 42 #[.string s] w fun e w' => e = .returned (.bool false) ∧ w' = w := by
  go_enter Try.func42, Try.ntmps42
  go_wp2
  go_ret
  exact ⟨by simp, rfl⟩
theorem less_ok (a b : ByteArray) (w : World) : Calls Try.prog 32 #[.string a, .string b] w fun e w' => e = .returned (.bool (Op.bytesLess a.toList b.toList)) ∧ w' = w := by
  have H1 := Lib.hid (nan_ok a w)
  go_enter Try.func32, Try.ntmps32
  go_wp2_with fail
  refine H1.out.mono ?_
  clear H1
  rintro e w1 ⟨rfl, rfl⟩
  go_wp2
  go_ret
  exact ⟨rfl, rfl⟩
theorem less_AB (w : World) : Calls Try.prog 32 #[tA, tB] w fun e w' => e = .returned (.bool true) ∧ w' = w := by
  have e : Op.bytesLess (ByteArray.mk [97].toArray).toList (ByteArray.mk [98].toArray).toList = true := by rw [ByteArray.toList_mk, ByteArray.toList_mk]; rfl
  have h := less_ok (ByteArray.mk [97].toArray) (ByteArray.mk [98].toArray) w
  rw [e] at h
  exact h
theorem less_BB (w : World) : Calls Try.prog 32 #[tB, tB] w fun e w' => e = .returned (.bool false) ∧ w' = w := by
  have e : Op.bytesLess (ByteArray.mk [98].toArray).toList (ByteArray.mk [98].toArray).toList = false := by rw [ByteArray.toList_mk]; rfl
  have h := less_ok (ByteArray.mk [98].toArray) (ByteArray.mk [98].toArray) w
  rw [e] at h
  exact h
set_option maxRecDepth 100000 in
set_option maxHeartbeats 1000000 in
theorem len64_ok (w : World) : Calls Try.prog 36 #[.int .u64 3] w fun e w' => (∃ x, e = .returned (.int .i64 x)) ∧ w' = w := by
  go_enter Try.func36, Try.ntmps36
  go_wp2
  go_ret
  exact ⟨⟨_, rfl⟩, rfl⟩
theorem len_ok (w : World) : Calls Try.prog 25 #[.int .u64 3] w fun e w' => (∃ x, e = .returned (.int .i64 x)) ∧ w' = w := by
  have H := Lib.hid (len64_ok w)
  go_enter Try.func25, Try.ntmps25
  go_wp2_with fail
  refine H.out.mono ?_
  rintro e w1 ⟨⟨x, rfl⟩, rfl⟩
  go_wp2
  go_ret
  exact ⟨⟨_, rfl⟩, rfl⟩

theorem Sl_set1 {w : World} {e : TypeId} {g off cap n i : Nat} {xs : List Value} (h : Sl w e 1 (.slice (some ⟨g, off, none⟩) n cap) n xs) (u : Value) : Sl (w.setCell ⟨g, off + i, none⟩ u) e 1 (.slice (some ⟨g, off, none⟩) n cap) n (xs.set i u) := by
  refine ⟨by rw [List.length_set]; exact h.1, ?_⟩
  rcases h.2 with ⟨hv, _⟩ | ⟨g', off', cap', cur, hv, hh, hc, hm, hs, ht⟩
  · cases hv
  · injection hv with e1 _ e3
    simp only [Option.some.injEq, Addr.mk.injEq, and_true] at e1
    obtain ⟨rfl, rfl⟩ := e1
    subst e3
    have hB : Blk w g e cur := hh
    refine .inr ⟨g, off, cap, cur.setIfInBounds (off + i) u, rfl, hB.set_ (off + i) u, hc, hm, by simpa using hs, ?_⟩
    rw [← ht, Array.toList_setIfInBounds, List.drop_set, if_neg (by omega), show off + i - off = i by omega, List.take_set]
end Go.Proofs.Ytbcckaaleoofhaa
