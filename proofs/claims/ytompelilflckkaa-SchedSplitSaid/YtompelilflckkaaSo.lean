/-
  The scheduler: a task's act.
-/
import Derived.Test.YtompelilflckkaaSn
namespace Go.Proofs.Ytompelilflckkaa
open Go.RowKit Go.Fl

/-- What comes of a task's act. -/
def DoPost (base r : Nat) (b : Nat → Nat) (w : World) (s : S) (d : Except Int S) (e : Ending) (w' : World) : Prop :=
  match d with
  | .ok s2 => e = .returned (.tuple #[]) ∧ (∃ f', RS w' base r f' b s2) ∧ Below base w w'
  | .error n => e = .panicked [{ v := boomV n, recovered := false }] ∧ (∃ f', RS w' base r f' b s) ∧ Only [] w w'
section
variable {w : World} {base r : Nat} {f : Nat → Value} {b : Nat → Nat} {s : S} {i L : Nat}
theorem post_ok {args : Array Value} {k : Nat} {d : Except Int S} {s2 : S} (hd : d = .ok s2) (hc : Calls Try.prog k args w fun e w' => e = .returned (.tuple #[]) ∧ (∃ f', RS w' base r f' b s2) ∧ Below base w w') : Calls Try.prog k args w (DoPost base r b w s d) := by
  subst hd
  exact hc
theorem post_err {args : Array Value} {k : Nat} {d : Except Int S} {n : Int} (hd : d = .error n) (hc : Calls Try.prog k args w fun e w' => e = .panicked [{ v := boomV n, recovered := false }] ∧ (∃ f', RS w' base r f' b s) ∧ Only [] w w') : Calls Try.prog k args w (DoPost base r b w s d) := by
  subst hd
  exact hc
theorem nat_of {a : Int} (h : 0 ≤ a) : ∃ x : Nat, a = x := ⟨a.toNat, by omega⟩

theorem do_ok (h : RS w base r f b s) (hw : WF s L) (hL : L ≤ 65536) (hi : i < s.n) (hr : how s (s.ts i) = 3) :
    Calls Try.prog 46 #[.pointer (some ⟨r, 0, none⟩), iv i, .pointer (some ⟨b i, 0, none⟩)] w (DoPost base r b w s (doM s i)) := by
  obtain ⟨hd, hp⟩ := how_ready hr
  have hact : okA (s.ts i).acts.length (s.ts i).act := hw.acts i hi _ (by unfold T.act; rw [List.getD_eq_getElem?_getD, List.getElem?_eq_getElem hp]; exact List.getElem_mem hp)
  have hwt := hw.wait i hi
  have hh : (if ((s.ts i).act.kind = 1 ∧ 0 ≤ s.locks (s.ts i).act.a.toNat) ∨ ((s.ts i).act.kind = 3 ∧ (s.ts i).wait = 2 ∧ 0 ≤ s.locks (s.ts i).act.b.toNat) then (4 : Int)
        else if (s.ts i).act.kind = 3 ∧ (s.ts i).wait = 1 then 5
        else if (s.ts i).act.kind = 6 ∧ s.room ≤ (s.queues (s.ts i).act.a.toNat).length then 6
        else if (s.ts i).act.kind = 7 ∧ s.queues (s.ts i).act.a.toNat = [] then 7
        else 3) = 3 := by
    have h0 := hr
    unfold how at h0
    rwa [if_neg (by simp [hd]), if_neg (by omega)] at h0
  obtain ⟨K, xa, xb, n, ha⟩ : ∃ K xa xb n, (s.ts i).act = ⟨K, xa, xb, n⟩ := ⟨_, _, _, _, rfl⟩
  rw [ha] at hact hh
  have hD : doM s i = doM s i := rfl
  conv at hD => rhs; unfold doM
  rw [ha] at hD
  dsimp only at hact hh hD
  unfold okA at hact
  dsimp only at hact
  rcases hact with ⟨hk, h1, h2, h3, h4⟩ | ⟨hk, h1, h2, h3, h4, h5⟩ | ⟨hk, h1, h2, h3⟩ | ⟨hk, h1, h2, h3, h4, h5⟩ | ⟨hk, h1, h2, h3⟩ | ⟨hk, h1, h2, h3, h4, h5⟩ | ⟨hk, h1, h2, h3, h4, h5⟩ | ⟨hk, h1, h2, h3⟩ | ⟨hk, h1, h2⟩ | ⟨hk, h1, h2, h3, h4⟩
  · obtain ⟨x, rfl⟩ := nat_of h1
    subst h3
    rcases hk with rfl | rfl | rfl | rfl
    · exact post_ok (by rw [hD]; simp) (do1 (y := 0) h hw hi hp ha (by omega))
    · by_cases hl : s.locks x = i
      · exact post_ok (by rw [hD]; simp [hl]) (do2_yes (y := 0) h hw hi hp ha (by omega) hl)
      · exact post_err (by rw [hD]; simp [hl]) (do2_no (y := 0) h hw hi hp ha (by omega) hl)
    · rcases Nat.lt_trichotomy (s.conds x).length 1 with hl | hl | hl
      · have hl : (s.conds x).length = 0 := by omega
        exact post_ok (by rw [hD]; simp [hl]) (do4_0 (y := 0) h hw hi hp ha (by omega) hL hl)
      · exact post_ok (by rw [hD]; simp [hl]) (do4_1 (y := 0) h hw hi hp ha (by omega) hL hl)
      · have hm : min 1 (s.conds x).length = 1 := by omega
        exact post_ok (by rw [hD]; simp [hm]) (do4_2 (y := 0) h hw hi hp ha (by omega) hL hl)
    · exact post_ok (by rw [hD]; simp) (do5 (y := 0) h hw hi hp ha (by omega) hL)
  · obtain ⟨x, rfl⟩ := nat_of h1
    obtain ⟨y, rfl⟩ := nat_of h3
    subst hk
    rcases hwt with hw0 | hw0 | hw0
    · by_cases hl : s.locks y = i
      · exact post_ok (by rw [hD]; simp [hw0, hl]) (do3_one h hw hi hp ha (by omega) (by omega) hw0 hl hL)
      · exact post_err (by rw [hD]; simp [hw0, hl]) (do3_no h hw hi hp ha (by omega) (by omega) hw0 hl)
    · simp [hw0] at hh
    · exact post_ok (by rw [hD]; simp [hw0]) (do3_two h hw hi hp ha (by omega) hw0)
  · obtain ⟨x, rfl⟩ := nat_of h1
    subst hk h3
    exact post_ok (by rw [hD]; simp) (do6 (y := 0) h hw hi hp ha (by omega) hL)
  · obtain ⟨x, rfl⟩ := nat_of h1
    obtain ⟨y, rfl⟩ := nat_of h3
    subst hk
    cases hq : s.queues x with
    | nil => simp [hq] at hh
    | cons q0 l => exact post_ok (by rw [hD]; simp [hq]) (do7 h hw hi hp ha (by omega) (by omega) hL hq)
  · obtain ⟨x, rfl⟩ := nat_of h1
    subst hk h3
    exact post_ok (by rw [hD]; simp) (do8 (y := 0) h hw hi hp ha (by omega))
  · obtain ⟨x, rfl⟩ := nat_of h1
    obtain ⟨y, rfl⟩ := nat_of h3
    subst hk
    exact post_ok (by rw [hD]; simp) (do9 h hw hi hp ha (by omega) (by omega))
  · obtain ⟨x, rfl⟩ := nat_of h1
    subst hk h3
    by_cases hz : s.regs x = 0
    · rcases Int.lt_trichotomy (((s.ts i).pc : Int) + n) ((s.ts i).acts.length : Int) with hm | hm | hm
      · have e : min ((s.ts i).pc + n.toNat) (s.ts i).acts.length = (s.ts i).pc + n.toNat := by omega
        exact post_ok (by rw [hD]; simp [hz, e]) (do10_a (y := 0) h hw hi hp ha h4 h5 (by omega) hz hm)
      · have e : min ((s.ts i).pc + n.toNat) (s.ts i).acts.length = (s.ts i).acts.length := by omega
        exact post_ok (by rw [hD]; simp [hz, e]) (do10_b (y := 0) h hw hi hp ha h4 h5 (by omega) hz hm)
      · have e : min ((s.ts i).pc + n.toNat) (s.ts i).acts.length = (s.ts i).acts.length := by omega
        exact post_ok (by rw [hD]; simp [hz, e]) (do10_c (y := 0) h hw hi hp ha h4 h5 (by omega) hz hm)
    · exact post_ok (by rw [hD]; simp [hz]) (do10_no (y := 0) h hw hi hp ha (by omega) hz)
  · subst hk h1 h2
    exact post_ok (by rw [hD]; simp) (do11 (x := 0) (y := 0) h hw hi hp ha)
  · subst hk h1 h2
    exact post_err (by rw [hD]; simp) (do12 (x := 0) (y := 0) h hw hi hp ha)
  · subst hk h1 h2
    exact post_ok (by rw [hD]; simp) (do13 (x := 0) (y := 0) h hw hi hp ha)
end
end Go.Proofs.Ytompelilflckkaa
