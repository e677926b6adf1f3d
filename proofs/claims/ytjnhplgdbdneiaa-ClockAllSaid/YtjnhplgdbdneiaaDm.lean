/-
  Clock: the library's sort of at most 12; Timers where there are at most 12.
-/
import Derived.Test.YtjnhplgdbdneiaaDl
import Derived.Test.YtjnhplgdbdneiaaShelf
set_option linter.unusedSimpArgs false
set_option linter.unusedVariables false
namespace Go.Proofs.Ytjnhplgdbdneiaa
open Go.RowKit Go.Fl

set_option maxRecDepth 100000 in
set_option maxHeartbeats 1600000 in
theorem pdq_small (w : World) {g off cap N : Nat} {d : List Tm} (h : DS w g off cap N d) {a b : Nat} (hb : b ≤ N) (hmx : N ≤ 1048577) (ha : a ≤ b) (h12 : b - a ≤ 12) (lim : Int) :
    Calls Try.prog 45 #[.slice (some ⟨g, off, none⟩) N cap, iv a, iv b, iv lim, cmpF] w fun e w' => e = .returned (.tuple #[]) ∧ ∃ d', DS w' g off cap N d' ∧ RP a b d d' ∧ SR d' a b ∧ Only [g] w w' := by
  have HQ := Lib.hid (fun (w' : World) (hw : w' = w) => ins51 w' (hw ▸ h) (a := a) (b := b) hb hmx (by omega))
  have e1 : wrap64 ((b : Int) - (a : Int)) = ((b - a : Nat) : Int) := wrap_to (by omega) (by omega)
  have e2 : ((b - a : Nat) : Int) ≤ 12 := by omega
  have e3 : wrap64 ((b : Int) - (a : Int)) ≤ 12 := by rw [e1]; exact e2
  clear h hb hmx ha h12 e1 e2
  go_enter Try.func45, Try.ntmps45
  go_wp2
  go_loopw [1, 2] (fun za zb wr => za = .int .i64 a ∧ zb = .int .i64 b ∧ wr = w) (fun _ _ _ => 0)
  case atStart => exact ⟨rfl, rfl, rfl⟩
  case round =>
    obtain ⟨rfl, rfl, rfl⟩ := hrel
    go_wp2_with fail
    refine (HQ.out _ rfl).mono ?_
    rintro e w2 ⟨rfl, hh⟩
    have HH := Lib.hid hh
    clear hh
    go_wp2
    exact bodyPost_ret (results_none rfl _ _ _) rfl ⟨rfl, HH.out⟩
end Go.Proofs.Ytjnhplgdbdneiaa
