/-
  The scheduler: whose turn it is; a panic caught; a lock let go.
-/
import Derived.Test.YtompelilflckkaaSe
import Derived.Test.YtompelilflckkaaArgs3
namespace Go.Proofs.Ytompelilflckkaa
open Go.RowKit Go.Fl

theorem nats_at {l : List Nat} {i : Nat} (h : i < l.length) : (nats l)[i]? = some (iv (l[i] : Nat)) := by simp [nats, h]
abbrev natv (n : Nat) : Value := iv n

set_option maxRecDepth 100000 in
set_option maxHeartbeats 3200000 in
theorem next_ok {w : World} {base r : Nat} {f : Nat → Value} {b : Nat → Nat} {s : S} {u pv : Value} {l picks : List Nat} (h : RS w base r f b s) (hu : Sl w 3 1 u l.length (nats l)) (hl : 0 < l.length) (hl2 : l.length ≤ 16) (hp : Row natv w pv picks) (ht : s.trace.length ≤ 65536) :
    Calls Try.prog 41 #[.pointer (some ⟨r, 0, none⟩), u, pv] w fun e w' => e = .returned (iv (next s l picks)) ∧ Only [] w w' := by
  obtain ⟨ct, hS⟩ := h.sTrace
  obtain ⟨tra, trc, htv, _, _⟩ := hS.shape
  rw [htv] at ct
  have hlt := h.lt
  have cl := h.cLast
  obtain ⟨g, o, c, hv, hg, _, _, hcc, _⟩ := hu.form hl
  subst hv
  obtain ⟨pa, pc, hpv, hpc, hpm, hpcc⟩ := hp
  subst hpv
  have HU := Lib.hid hu
  clear hS hu
  by_cases hk : s.trace.length < picks.length
  · have hkz : (s.trace.length : Int) < (picks.length : Int) := by omega
    obtain ⟨gp, op, ha, hgp, hpcd⟩ := hpcc (by omega)
    clear hpcc
    subst ha
    obtain ⟨x, hx⟩ : ∃ x, picks[s.trace.length] = x := ⟨_, rfl⟩
    have cp : w.cell? ⟨gp, op + s.trace.length, none⟩ = some (iv x) := hx ▸ hpcd _ hk
    have hlz : ¬ (l.length : Int) = 0 := by omega
    have hm : x % l.length < l.length := Nat.mod_lt _ hl
    have cm := (hcc (x % l.length) (by omega)).trans (nats_at hm)
    have HN := Lib.hid (show next s l picks = l[x % l.length] by unfold next; rw [dif_pos hk, hx, List.getD_eq_getElem?_getD, List.getElem?_eq_getElem hm]; rfl)
    have hmz : (x : Int) % (l.length : Int) < (l.length : Int) := by omega
    clear hpcd hcc hx
    go_enter Try.func41, Try.ntmps41
    go_wp2
    refine bodyPost_ret (results_tmp rfl _ _ _) rfl ⟨?_, Only.refl _ _⟩
    rw [HN.out]; rfl
  · have hkz : (picks.length : Int) ≤ (s.trace.length : Int) := by omega
    have HN := Lib.hid (show next s l picks = match l.find? (fun (i : Nat) => decide (s.last < (i : Int))) with
        | some i => i
        | none => l.getD 0 0 by unfold next; rw [dif_neg hk]; rfl)
    go_enter Try.func41, Try.ntmps41
    go_wp2
    go_loopw [31] (fun z wr => ∃ k : Nat, k ≤ l.length ∧ z = .int .i64 k ∧ Hid (wr = w) ∧ Hid (∀ i (h : i < l.length), i < k → ¬ s.last < (l[i] : Int))) (fun z _ => l.length - (intOf z).toNat)
    case atStart => exact ⟨0, Nat.zero_le _, rfl, Lib.hid rfl, Lib.hid (fun i _ h => by omega)⟩
    case round =>
      obtain ⟨k, hk2, rfl, HW, HB⟩ := hrel
      obtain rfl := HW.out
      by_cases hkl : k < l.length
      · have hklz : (k : Int) < (l.length : Int) := by omega
        have cm := (hcc k (by omega)).trans (nats_at hkl)
        by_cases hlt2 : s.last < (l[k] : Int)
        · have HR := Lib.hid (show next s l picks = l[k] by
            rw [HN.out]
            have : l.find? (fun (i : Nat) => decide (s.last < (i : Int))) = some l[k] := by
              rw [List.find?_eq_some_iff_getElem]
              exact ⟨by simpa using hlt2, k, hkl, rfl, fun j hj => by simpa using HB.out j (by omega) hj⟩
            rw [this])
          generalize l[k] = y at *
          clear hcc
          go_wp2
          refine bodyPost_ret (results_tmp rfl _ _ _) rfl ⟨?_, Only.refl _ _⟩
          rw [HR.out]; rfl
        · have HB2 := Lib.hid (show ∀ i (h : i < l.length), i < k + 1 → ¬ s.last < (l[i] : Int) from fun i hi hik => by
            rcases Nat.lt_succ_iff_lt_or_eq.1 hik with h1 | h1
            · exact HB.out i hi h1
            · subst h1; exact hlt2)
          have hge : (l[k] : Int) ≤ s.last := by omega
          have hgd : decide (s.last < (l[k] : Int)) = false := decide_eq_false hlt2
          generalize hy : l[k] = y at *
          clear hy hlt2 hcc
          go_wp2
          go_roundw
          case measure => simp [intOf]; omega
          case rel => exact ⟨k + 1, by omega, by go_num, Lib.hid (by trivial), HB2⟩
      · obtain rfl : k = l.length := by omega
        have cm := (hcc 0 (by omega)).trans (nats_at hl)
        have HR := Lib.hid (show next s l picks = l[0] by
          rw [HN.out]
          have : l.find? (fun (i : Nat) => decide (s.last < (i : Int))) = none := by
            rw [List.find?_eq_none]
            intro x hx
            obtain ⟨i, hi, rfl⟩ := List.getElem_of_mem hx
            simpa using HB.out i hi hi
          rw [this, List.getD_eq_getElem?_getD, List.getElem?_eq_getElem hl]; rfl)
        have hlz : (0 : Int) < (l.length : Int) := by omega
        rw [Nat.add_zero] at cm
        generalize l[0] = y at *
        clear hcc
        go_wp2
        refine bodyPost_ret (results_tmp rfl _ _ _) rfl ⟨?_, Only.refl _ _⟩
        rw [HR.out]; rfl

/-- A task is turned, told by what it was. -/
theorem RS.setT2 {w : World} {base r : Nat} {f : Nat → Value} {b : Nat → Nat} {s : S} (h : RS w base r f b s) {i j : Nat} (hi : i < s.n) {u : Value} {t0 t : T} (h0 : s.ts i = t0) (ha : t.acts = t0.acts)
    (hc : ∀ v, SetEq (#[v, iv t0.pc, iv t0.guard, iv t0.wait, .bool t0.died, iv t0.num].setIfInBounds j u) #[v, iv t.pc, iv t.guard, iv t.wait, .bool t.died, iv t.num]) :
    RS (w.setCell ⟨b i, j, none⟩ u) base r f b (s.setT i t) ∧ Below base w (w.setCell ⟨b i, j, none⟩ u) := by
  subst h0
  exact h.setT hi ha hc

set_option maxRecDepth 100000 in
theorem caught_ok' {w : World} {base r : Nat} {f : Nat → Value} {b : Nat → Nat} {s : S} {i : Nat} (h : RS w base r f b s) (hi : i < s.n) (hg : -1 ≤ (s.ts i).guard) (n : Int) :
    Calls Try.prog 45 #[.pointer (some ⟨r, 0, none⟩), .pointer (some ⟨b i, 0, none⟩), iv n] w fun e w' => e = .returned (.tuple #[]) ∧ (∃ f', RS w' base r f' b (caught s i n)) ∧ Below base w w' := by
  obtain ⟨v, hB, hA⟩ := h.task i hi
  obtain ⟨hcell, hfr, hlt⟩ := hB.facts
  have hlr := h.lt
  have hfr2 := h.rc.blk.frozen
  obtain ⟨x21, c21⟩ : ∃ x, w.cell? ⟨r, 21, none⟩ = some x := ⟨_, h.cReg (k := 7) (by omega)⟩
  have hne : b i ≠ r := fun e => by have := (e ▸ hB : Blk w r 80 _).ty_eq h.rc.blk; cases this
  have H := Lib.hid h
  clear h hA hB
  by_cases hgd : (s.ts i).guard < 0
  · have HE := Lib.hid (show caught s i n = (s.setT i { s.ts i with died := true }).setT i { s.ts i with died := true, num := n } by unfold caught; rw [if_pos hgd, setT_setT])
    go_enter Try.func45, Try.ntmps45
    go_wp2
    refine bodyPost_ret (results_none rfl _ _ _) rfl ?_
    obtain ⟨h1, b1⟩ := H.out.setT2 hi (j := 4) (u := .bool true) (t := { s.ts i with died := true }) rfl rfl (fun _ => rfl)
    obtain ⟨h2, b2⟩ := h1.setT2 hi (j := 5) (u := iv n) (t := { s.ts i with died := true, num := n }) (setT_ts _ _ _) rfl (fun _ => rfl)
    exact ⟨rfl, ⟨f, by rw [HE.out]; exact h2⟩, b1.trans b2⟩
  · have hge : 0 ≤ (s.ts i).guard := by omega
    have HE := Lib.hid (show caught s i n = (((s.setT i { s.ts i with pc := (s.ts i).guard.toNat }).setT i { s.ts i with pc := (s.ts i).guard.toNat, guard := -1 }).setT i { s.ts i with pc := (s.ts i).guard.toNat, guard := -1, wait := 0 }).setReg 7 n by
      unfold caught; rw [if_neg hgd, setT_setT, setT_setT])
    go_enter Try.func45, Try.ntmps45
    go_wp2
    go_end0
    obtain ⟨h1, b1⟩ := H.out.setT2 hi (j := 1) (u := iv (s.ts i).guard) (t := { s.ts i with pc := (s.ts i).guard.toNat }) rfl rfl (fun v => by
      show (#[v, iv (s.ts i).guard, iv (s.ts i).guard, iv (s.ts i).wait, .bool (s.ts i).died, iv (s.ts i).num] : Array Value) = #[v, iv ((s.ts i).guard.toNat : Nat), iv (s.ts i).guard, iv (s.ts i).wait, .bool (s.ts i).died, iv (s.ts i).num]
      rw [Int.toNat_of_nonneg hge])
    obtain ⟨h2, b2⟩ := h1.setT2 hi (j := 2) (u := iv (-1)) (t := { s.ts i with pc := (s.ts i).guard.toNat, guard := -1 }) (setT_ts _ _ _) rfl (fun _ => rfl)
    obtain ⟨h3, b3⟩ := h2.setT2 hi (j := 3) (u := iv 0) (t := { s.ts i with pc := (s.ts i).guard.toNat, guard := -1, wait := 0 }) (setT_ts _ _ _) rfl (fun _ => rfl)
    obtain ⟨h4, b4⟩ := h3.reg (k := 7) (by omega) n
    exact ⟨rfl, ⟨_, by rw [HE.out]; exact h4⟩, ((b1.trans b2).trans b3).trans b4⟩
end Go.Proofs.Ytompelilflckkaa
