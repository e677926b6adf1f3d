/-
  SchedGuards in plain words: guarded: all rounds.
-/
import Derived.Test.YtompelilflckkaaVb
namespace Go.Proofs.Ytompelilflckkaa
open Go.RowKit Go.Fl

/-- Behind i rounds. -/
structure GI (ns : List Int) (i : Nat) (s : S) : Prop where
  n : s.n = 2
  t0 : s.ts 0 = ⟨gTask true ns, 1 + 2 * i, -1, 0, false, 0⟩
  t1 : s.ts 1 = t1G
  lk : s.locks 1 = 0
  r7 : s.regs 7 = if i = 0 then 0 else ns.getD (i - 1) 0
theorem how_t1 {s : S} (h1 : s.ts 1 = t1G) (hl : 0 ≤ s.locks 1) : how s (s.ts 1) = 4 := by
  rw [h1]
  unfold how t1G T.act
  simp [hl]
theorem setT_other (s : S) {i j : Nat} (t : T) (h : j ≠ i) : (s.setT i t).ts j = s.ts j := upd_ne _ _ _ _ h
theorem go_ts (s : S) (i : Nat) : (s.go i).ts i = { s.ts i with pc := (s.ts i).pc + 1 } := setT_ts _ _ _
theorem go_other (s : S) {i j : Nat} (h : j ≠ i) : (s.go i).ts j = s.ts j := setT_other _ _ h
/-- A round: the guard, the panic. -/
theorem g_round {ns : List Int} {i : Nat} {s : S} (h : GI ns i s) (hi : i < ns.length) : ∃ s1, ready s = [0] ∧ s1 = step s 0 ∧ ready s1 = [0] ∧ GI ns (i + 1) (step s1 0) := by
  have hl := gTask_len true ns
  obtain ⟨ha, hb⟩ := gTask_at true ns hi
  have hact : (s.ts 0).act = ⟨13, 0, 0, ((2 * i + 3 : Nat) : Int)⟩ := by rw [h.t0]; exact ha
  have hh0 : how s (s.ts 0) = 3 := by
    unfold how
    rw [hact, h.t0]
    simp only []
    rw [if_neg (by simp), if_neg (by omega), if_neg (by simp), if_neg (by simp), if_neg (by simp), if_neg (by simp)]
  have hd : doM (mark s 0) 0 = .ok (((mark s 0).setT 0 { s.ts 0 with guard := ((2 * i + 3 : Nat) : Int) }).go 0) := by
    have e : ((mark s 0).ts 0).act = ⟨13, 0, 0, ((2 * i + 3 : Nat) : Int)⟩ := hact
    unfold doM
    rw [e]
    rfl
  have hs1 : step s 0 = ((mark s 0).setT 0 { s.ts 0 with guard := ((2 * i + 3 : Nat) : Int) }).go 0 := by unfold step; rw [hd]
  obtain ⟨s1, hs⟩ : ∃ s1, s1 = step s 0 := ⟨_, rfl⟩
  have k0 : s1.ts 0 = ⟨gTask true ns, 2 + 2 * i, ((2 * i + 3 : Nat) : Int), 0, false, 0⟩ := by
    rw [hs, hs1, go_ts, setT_ts, h.t0]
    simp only []
    rw [show 1 + 2 * i + 1 = 2 + 2 * i by omega]
  have k1 : s1.ts 1 = t1G := by
    rw [hs, hs1, go_other _ (by omega), setT_other _ _ (by omega)]
    exact h.t1
  have kn : s1.n = 2 := by rw [hs, hs1]; exact h.n
  have kl : s1.locks 1 = 0 := by rw [hs, hs1]; exact h.lk
  have hact1 : (s1.ts 0).act = ⟨12, 0, 0, ns[i]⟩ := by rw [k0]; exact hb
  have hh1 : how s1 (s1.ts 0) = 3 := by
    unfold how
    rw [hact1, k0]
    simp only []
    rw [if_neg (by simp), if_neg (by omega), if_neg (by simp), if_neg (by simp), if_neg (by simp), if_neg (by simp)]
  have hd1 : doM (mark s1 0) 0 = .error ns[i] := by
    have e : ((mark s1 0).ts 0).act = ⟨12, 0, 0, ns[i]⟩ := hact1
    unfold doM
    rw [e]
    rfl
  have hs2 : step s1 0 = ((mark s1 0).setT 0 { s1.ts 0 with pc := (((2 * i + 3 : Nat) : Int)).toNat, guard := -1, wait := 0 }).setReg 7 ns[i] := by
    unfold step
    rw [hd1]
    show caught (mark s1 0) 0 ns[i] = _
    have e : ((mark s1 0).ts 0).guard = ((2 * i + 3 : Nat) : Int) := by show (s1.ts 0).guard = _; rw [k0]
    unfold caught
    rw [if_neg (by rw [e]; omega), e]
    rfl
  refine ⟨s1, ready_first h.n hh0 (by rw [how_t1 h.t1 (by rw [h.lk]; omega)]; omega), hs, ready_first kn hh1 (by rw [how_t1 k1 (by rw [kl]; omega)]; omega), ?_⟩
  rw [hs2]
  refine ⟨kn, ?_, ?_, kl, ?_⟩
  · have e : ((mark s1 0).setT 0 { s1.ts 0 with pc := (((2 * i + 3 : Nat) : Int)).toNat, guard := -1, wait := 0 }).ts 0 = { s1.ts 0 with pc := (((2 * i + 3 : Nat) : Int)).toNat, guard := -1, wait := 0 } := setT_ts _ _ _
    refine e.trans ?_
    rw [k0, Int.toNat_natCast, show 2 * i + 3 = 1 + 2 * (i + 1) by omega]
  · have e : ((mark s1 0).setT 0 { s1.ts 0 with pc := (((2 * i + 3 : Nat) : Int)).toNat, guard := -1, wait := 0 }).ts 1 = s1.ts 1 := setT_other _ _ (by omega)
    exact e.trans k1
  · have e : (((mark s1 0).setT 0 { s1.ts 0 with pc := (((2 * i + 3 : Nat) : Int)).toNat, guard := -1, wait := 0 }).setReg 7 ns[i]).regs 7 = ns[i] := by simp [S.setReg, upd]
    refine e.trans ?_
    rw [if_neg (by omega), Nat.add_sub_cancel, List.getD_eq_getElem?_getD, List.getElem?_eq_getElem hi]
    rfl
end Go.Proofs.Ytompelilflckkaa
