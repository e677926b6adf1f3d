/-
  The scheduler: which acts may be.
-/
import Derived.Test.YtompelilflckkaaMg
set_option linter.unusedSimpArgs false
set_option linter.unusedVariables false
namespace Go.Proofs.Ytompelilflckkaa
open Go.RowKit Go.Fl

/-- Of what numbers? -/
def btw (n most : Int) : Bool := decide (0 ≤ n) && decide (n < most)
set_option maxRecDepth 100000 in
theorem between_ok (n m : Int) (w : World) : Calls Try.prog 35 #[iv n, iv m] w fun e w' => e = .returned (.bool (btw n m)) ∧ w' = w := by
  unfold btw
  by_cases h : 0 ≤ n
  · go_enter Try.func35, Try.ntmps35
    go_wp2
    go_ret
    exact ⟨by simp [h], rfl⟩
  · have h2 : n < 0 := by omega
    rw [decide_eq_false h, Bool.false_and]
    go_enter Try.func35, Try.ntmps35
    go_wp2
    go_ret
    exact ⟨rfl, rfl⟩
/-- A field's number is looked at, and wiped. -/
theorem use_ok {w : World} {gp k gq : Nat} {n most : Int} {ok : Bool} (hp : w.cell? ⟨gp, k, none⟩ = some (iv n)) (hq : w.cell? ⟨gq, 0, none⟩ = some (.bool ok)) (hfp : w.frozen? ⟨gp, k, none⟩ = false) (hfq : w.frozen? ⟨gq, 0, none⟩ = false) (hne : gq ≠ gp) :
    Calls Try.prog 34 #[.pointer (some ⟨gp, k, none⟩), iv most, .pointer (some ⟨gq, 0, none⟩)] w fun e w' => e = .returned (.tuple #[]) ∧ w' = (w.setCell ⟨gq, 0, none⟩ (.bool (ok && btw n most))).setCell ⟨gp, k, none⟩ (iv 0) := by
  cases ok with
  | true =>
    have HB := Lib.hid (between_ok n most w)
    go_enter Try.func34, Try.ntmps34
    go_wp2_with fail
    refine HB.out.mono ?_
    clear HB
    rintro e w1 ⟨rfl, rfl⟩
    go_wp2
    go_end0
    exact ⟨rfl, rfl⟩
  | false =>
    go_enter Try.func34, Try.ntmps34
    go_wp2
    go_end0
    exact ⟨rfl, rfl⟩
end Go.Proofs.Ytompelilflckkaa
/-
  The scheduler: is an act right?
-/
namespace Go.Proofs.Ytompelilflckkaa
open Go.RowKit Go.Fl

theorem use_blk {w : World} {gb k gc : Nat} {m most : Int} {ok : Bool} {cs cs' : Array Value} (hb : Blk w gb 47 cs) (hc : Blk w gc 4 #[.bool ok]) (hk : cs[k]? = some (iv m)) (hs : SetEq (cs.setIfInBounds k (iv 0)) cs') :
    Calls Try.prog 34 #[.pointer (some ⟨gb, k, none⟩), iv most, .pointer (some ⟨gc, 0, none⟩)] w fun e w' => e = .returned (.tuple #[]) ∧ Blk w' gb 47 cs' ∧ Blk w' gc 4 #[.bool (ok && btw m most)] ∧ Only [gb, gc] w w' := by
  have hne : gc ≠ gb := hc.ne_ hb (by decide)
  refine (use_ok (ok := ok) ((hb.cell k).trans hk) (hc.cell 0) (hb.frozen k) (hc.frozen 0) hne).mono ?_
  rintro e w' ⟨rfl, rfl⟩
  exact ⟨rfl, (hb.far (p := ⟨gc, 0, none⟩) (fun e => hne e.symm) _).set' hs, (hc.set_ 0 _).far (p := ⟨gb, k, none⟩) hne _, ((Only.refl _ w).setCell (.inl (by simp)) _).setCell (.inl (by simp)) _⟩
/-- Is an act, which may be of some kind, right in a list of so many? -/
def rightB (K a b n len : Int) : Bool :=
  if K = 1 ∨ K = 2 ∨ K = 4 ∨ K = 5 then btw a 4 && (decide (b = 0) && decide (n = 0))
  else if K = 3 then (btw a 4 && btw b 4) && decide (n = 0)
  else if K = 6 then btw a 4 && decide (b = 0)
  else if K = 7 then (btw a 4 && btw b 8) && decide (n = 0)
  else if K = 8 then btw a 8 && decide (b = 0)
  else if K = 9 then (btw a 8 && btw b 8) && decide (n = 0)
  else if K = 10 then (btw a 8 && (decide (0 ≤ n) && decide (n ≤ 255))) && decide (b = 0)
  else if K = 12 then decide (a = 0) && decide (b = 0)
  else if K = 13 then (decide (0 ≤ n) && decide (n ≤ len)) && (decide (a = 0) && decide (b = 0))
  else decide (a = 0) && (decide (b = 0) && decide (n = 0))

section
variable {w : World} {a b n len : Int}
set_option maxRecDepth 100000 in
set_option maxHeartbeats 1600000 in
theorem right11 : Calls Try.prog 20 #[.agg #[iv 11, iv a, iv b, iv n], iv len] w fun e w' => e = .returned (.bool (decide (a = 0) && (decide (b = 0) && decide (n = 0)))) ∧ Only [] w w' := by
  have hmf : ∀ (fn : Fn) (first cap : Array Value) (w : World), (Instr.makeFunc fn first cap).run Try.prog w = .ok (.func fn first cap) w := fun _ _ _ _ => rfl
  have ha0 : Blk (((w.alloc (.cells #[iv 11, iv a, iv b, iv n] 47)).alloc (.cells #[iv 0, iv a, iv b, iv n] 47)).alloc (.cells #[.bool true] 4)) w.heap.size 47 #[iv 11, iv a, iv b, iv n] := ((Blk.new _ _ _).alloc _).alloc _
  have hb0 : Blk (((w.alloc (.cells #[iv 11, iv a, iv b, iv n] 47)).alloc (.cells #[iv 0, iv a, iv b, iv n] 47)).alloc (.cells #[.bool true] 4)) (w.heap.size + 1) 47 #[iv 0, iv a, iv b, iv n] := by
    have := (Blk.new (w.alloc (.cells #[iv 11, iv a, iv b, iv n] 47)) 47 #[iv 0, iv a, iv b, iv n]).alloc (.cells #[.bool true] 4)
    simpa using this
  have hc0 : Blk (((w.alloc (.cells #[iv 11, iv a, iv b, iv n] 47)).alloc (.cells #[iv 0, iv a, iv b, iv n] 47)).alloc (.cells #[.bool true] 4)) (w.heap.size + 1 + 1) 4 #[.bool true] := by
    have := Blk.new ((w.alloc (.cells #[iv 11, iv a, iv b, iv n] 47)).alloc (.cells #[iv 0, iv a, iv b, iv n] 47)) 4 #[.bool true]
    simpa using this
  have hO0 : Only [] w (((w.alloc (.cells #[iv 11, iv a, iv b, iv n] 47)).alloc (.cells #[iv 0, iv a, iv b, iv n] 47)).alloc (.cells #[.bool true] 4)) := (((Only.refl [] w).alloc _).alloc _).alloc _
  go_enter Try.func20, Try.ntmps20
  go_wp2
  all_goals refine bodyPost_ret (results_tmp rfl _ _ _) rfl ⟨?_, by (repeat (first | with_reducible exact Only.refl _ _ | with_reducible exact Only.refl [] w | with_reducible refine Only.drew ?_ | with_reducible refine Only.drewN ?_ _ | with_reducible refine Only.alloc ?_ _ | ((with_reducible refine Only.setCell ?_ ?_ _); rotate_left; (focus (first | (left; simp; done) | (right; simp; done) | (right; simp; omega) | (right; omega))))))⟩
  all_goals simp_all
theorem only2 {w w1 w2 : World} {gb gc : Nat} (h0 : Only [] w w1) (h1 : Only [gb, gc] w1 w2) (hb : w.heap.size ≤ gb) (hc : w.heap.size ≤ gc) : Only [] w w2 :=
  h0.trans' h1 fun i hi => by
    simp at hi
    rcases hi with rfl | rfl
    · exact .inr hb
    · exact .inr hc
set_option maxRecDepth 100000 in
set_option maxHeartbeats 1600000 in
theorem right1 : Calls Try.prog 20 #[.agg #[iv 1, iv a, iv b, iv n], iv len] w fun e w' => e = .returned (.bool (btw a 4 && (decide (b = 0) && decide (n = 0)))) ∧ Only [] w w' := by
  have hmf : ∀ (fn : Fn) (first cap : Array Value) (w : World), (Instr.makeFunc fn first cap).run Try.prog w = .ok (.func fn first cap) w := fun _ _ _ _ => rfl
  have ha0 : Blk (((w.alloc (.cells #[iv 1, iv a, iv b, iv n] 47)).alloc (.cells #[iv 0, iv a, iv b, iv n] 47)).alloc (.cells #[.bool true] 4)) w.heap.size 47 #[iv 1, iv a, iv b, iv n] := ((Blk.new _ _ _).alloc _).alloc _
  have hb0 : Blk (((w.alloc (.cells #[iv 1, iv a, iv b, iv n] 47)).alloc (.cells #[iv 0, iv a, iv b, iv n] 47)).alloc (.cells #[.bool true] 4)) (w.heap.size + 1) 47 #[iv 0, iv a, iv b, iv n] := by
    have := (Blk.new (w.alloc (.cells #[iv 1, iv a, iv b, iv n] 47)) 47 #[iv 0, iv a, iv b, iv n]).alloc (.cells #[.bool true] 4)
    simpa using this
  have hc0 : Blk (((w.alloc (.cells #[iv 1, iv a, iv b, iv n] 47)).alloc (.cells #[iv 0, iv a, iv b, iv n] 47)).alloc (.cells #[.bool true] 4)) (w.heap.size + 1 + 1) 4 #[.bool true] := by
    have := Blk.new ((w.alloc (.cells #[iv 1, iv a, iv b, iv n] 47)).alloc (.cells #[iv 0, iv a, iv b, iv n] 47)) 4 #[.bool true]
    simpa using this
  have hO0 : Only [] w (((w.alloc (.cells #[iv 1, iv a, iv b, iv n] 47)).alloc (.cells #[iv 0, iv a, iv b, iv n] 47)).alloc (.cells #[.bool true] 4)) := (((Only.refl [] w).alloc _).alloc _).alloc _
  have HU := Lib.hid (use_blk (k := 1) (most := 4) (cs' := #[iv 0, iv 0, iv b, iv n]) hb0 hc0 rfl rfl)
  cases h1 : btw a 4 <;> rw [h1] at HU
  all_goals
    go_enter Try.func20, Try.ntmps20
    go_wp2_with (go_at_call 34; refine HU.out.mono ?_; clear HU; rintro e w1 ⟨rfl, hB1, hC1, hO1⟩; have HO1 := Lib.hid (only2 hO0 hO1 (by omega) (by omega)); obtain ⟨hcb, hfb, hltb⟩ := hB1.facts; obtain ⟨hcc, hfc, hltc⟩ := hC1.facts; clear hB1 hC1 hO1 ha0 hb0 hc0 hO0)
    all_goals refine bodyPost_ret (results_tmp rfl _ _ _) rfl ⟨?_, HO1.out⟩
    all_goals simp_all
end
end Go.Proofs.Ytompelilflckkaa
