/-
  The scheduler: a task's act, whether it has ended.
-/
import Derived.Test.YtompelilflckkaaSb
import Derived.Test.YtompelilflckkaaLex3
import Derived.Test.YtompelilflckkaaProg
import Derived.StillTailTactics
import Derived.BigQuiet
import Derived.Deep.RegionHeld3
namespace Go.Proofs.Ytompelilflckkaa
open Go.RowKit Go.Fl

def over (t : T) : Bool := t.died || decide (t.acts.length ≤ t.pc)

set_option maxRecDepth 100000 in
theorem ended_ok {w : World} {base r : Nat} {f : Nat → Value} {b : Nat → Nat} {s : S} {i : Nat} (h : RS w base r f b s) (hi : i < s.n) (hl : (s.ts i).pc ≤ 65536) :
    Calls Try.prog 42 #[.pointer (some ⟨b i, 0, none⟩)] w fun e w' => e = .returned (.bool (over (s.ts i))) ∧ Only [] w w' := by
  obtain ⟨v, hB, hA⟩ := h.task i hi
  obtain ⟨a, cap, hv, hl1, hl2, _⟩ := hA
  obtain ⟨hcell, hfr, hlt⟩ := hB.facts
  subst hv
  generalize s.ts i = t at *
  unfold over
  cases hd : t.died with
  | true =>
    rw [hd] at hcell
    go_enter Try.func42, Try.ntmps42
    go_wp2
    go_quiet (fail)
    go_wp2
    go_ret
    exact ⟨rfl, (Only.refl _ _).drewN _⟩
  | false =>
    rw [hd] at hcell
    by_cases hp : t.acts.length ≤ t.pc
    · have hpz : decide ((t.acts.length : Int) ≤ (t.pc : Int)) = true := decide_eq_true (by omega)
      go_enter Try.func42, Try.ntmps42
      go_wp2
      go_quiet (fail)
      go_wp2
      go_ret
      exact ⟨by simp [hp], (Only.refl _ _).drewN _⟩
    · have hpz : decide ((t.acts.length : Int) ≤ (t.pc : Int)) = false := decide_eq_false (by omega)
      go_enter Try.func42, Try.ntmps42
      go_wp2
      go_quiet (fail)
      go_wp2
      go_ret
      exact ⟨by simp [hp], (Only.refl _ _).drewN _⟩

set_option maxRecDepth 100000 in
theorem act_ok {w : World} {base r : Nat} {f : Nat → Value} {b : Nat → Nat} {s : S} {i : Nat} (h : RS w base r f b s) (hi : i < s.n) (hp : (s.ts i).pc < (s.ts i).acts.length) :
    Calls Try.prog 43 #[.pointer (some ⟨b i, 0, none⟩)] w fun e w' => e = .returned (actV (s.ts i).act) ∧ Only [] w w' := by
  obtain ⟨v, hB, hA⟩ := h.task i hi
  obtain ⟨a, cap, hv, hl1, hl2, hcc⟩ := hA
  obtain ⟨hcell, hfr, hlt⟩ := hB.facts
  subst hv
  obtain ⟨g, off, ha, _, hgs, hcd⟩ := hcc (by omega)
  clear hcc
  subst ha
  have hact : (s.ts i).act = (s.ts i).acts[(s.ts i).pc] := by unfold T.act; rw [List.getD_eq_getElem?_getD, List.getElem?_eq_getElem hp]; rfl
  rw [hact]
  obtain ⟨c0, c1, c2, c3⟩ := hcd _ hp
  generalize (s.ts i).acts[(s.ts i).pc] = x at *
  generalize s.ts i = t at *
  have hpz : (t.pc : Int) < (t.acts.length : Int) := by omega
  clear hcd hact
  go_enter Try.func43, Try.ntmps43
  go_wp2
  refine Lex.wp_region_text (by kernel_rfl) (by kernel_rfl) ?_
  go_wp2
  refine Lex.sq_done (by rfl) ?_
  go_wp2
  refine bodyPost_ret (v := actV x) ?_ rfl ⟨rfl, ?_⟩
  · refine results1 rfl (res_blk Try.underlying47 (by kernel_rfl) rfl (cs := [iv x.kind, iv x.a, iv x.b, iv x.n]) ?_)
    exact (Blk.new w 47 _).drew
  · exact ((Only.refl [] w).alloc _).drew
end Go.Proofs.Ytompelilflckkaa
