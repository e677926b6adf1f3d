/-
  SchedGuards in plain words: what a run comes to.
-/
import Derived.Test.YtompelilflckkaaVc
namespace Go.Proofs.Ytompelilflckkaa
open Go.RowKit Go.Fl

theorem how3_of {s : S} {t : T} {a : A} (ha : t.act = a) (hd : t.died = false) (hl : t.pc < t.acts.length) (h1 : a.kind ≠ 3) (h2 : a.kind ≠ 6) (h3 : a.kind ≠ 7) (h4 : a.kind = 1 → s.locks a.a.toNat < 0) : how s t = 3 := by
  unfold how
  rw [ha, hd]
  rw [if_neg (by simp), if_neg (by omega), if_neg (by
    rintro (⟨e, h⟩ | ⟨e, _⟩)
    · have := h4 e; omega
    · exact h1 e), if_neg (fun h => h1 h.1), if_neg (fun h => h2 h.1), if_neg (fun h => h3 h.1)]
theorem how1_of {s : S} {t : T} (hd : t.died = false) (hl : t.acts.length ≤ t.pc) : how s t = 1 := by
  unfold how
  rw [hd, if_neg (by simp), if_pos hl]
theorem how2_of {s : S} {t : T} (hd : t.died = true) : how s t = 2 := by
  unfold how
  rw [if_pos hd]
/-- Behind the lock. -/
structure G0 (g : Bool) (ns : List Int) (s : S) : Prop where
  n : s.n = 2
  t0 : s.ts 0 = ⟨gTask g ns, 1, -1, 0, false, 0⟩
  t1 : s.ts 1 = t1G
  lk : s.locks 1 = 0
  r7 : s.regs 7 = 0
theorem g_first (g : Bool) (ns : List Int) : ready (begin_ (gTasks g ns) 1) = [0, 1] ∧ G0 g ns (step (begin_ (gTasks g ns) 1) 0) := by
  obtain ⟨s, hs⟩ : ∃ s, s = begin_ (gTasks g ns) 1 := ⟨_, rfl⟩
  have hn : s.n = 2 := by rw [hs]; rfl
  have h0 : s.ts 0 = ⟨gTask g ns, 0, -1, 0, false, 0⟩ := by rw [hs]; rfl
  have h1 : s.ts 1 = t1G := by rw [hs]; rfl
  have hlk : s.locks 1 = -1 := by rw [hs]; rfl
  have hr7 : s.regs 7 = 0 := by rw [hs]; rfl
  rw [← hs]
  clear hs
  have ha : (s.ts 0).act = ⟨1, 1, 0, 0⟩ := by rw [h0]; rfl
  have ha1 : (s.ts 1).act = ⟨1, 1, 0, 0⟩ := by rw [h1]; rfl
  have hh0 : how s (s.ts 0) = 3 := how3_of ha (by rw [h0]) (by rw [h0]; show 0 < (gTask g ns).length; rw [gTask_len]; omega) (by simp) (by simp) (by simp) (fun _ => by show s.locks 1 < 0; omega)
  have hh1 : how s (s.ts 1) = 3 := how3_of ha1 (by rw [h1]; rfl) (by rw [h1]; decide) (by simp) (by simp) (by simp) (fun _ => by show s.locks 1 < 0; omega)
  have hd : doM (mark s 0) 0 = .ok (((mark s 0).setLock 1 0).go 0) := by
    have e : ((mark s 0).ts 0).act = ⟨1, 1, 0, 0⟩ := ha
    unfold doM
    rw [e]
    rfl
  have hs1 : step s 0 = ((mark s 0).setLock 1 0).go 0 := by unfold step; rw [hd]
  refine ⟨?_, ?_⟩
  · unfold ready
    rw [hn, show List.range 2 = [0, 1] from rfl]
    simp [hh0, hh1]
  · rw [hs1]
    refine ⟨hn, ?_, ?_, ?_, hr7⟩
    · rw [go_ts]
      show { s.ts 0 with pc := (s.ts 0).pc + 1 } = _
      rw [h0]
    · rw [go_other _ (by omega)]
      exact h1
    · show ((mark s 0).setLock 1 0).locks 1 = 0
      simp [S.setLock, upd]
theorem next_zero {s : S} (h : s.trace.length < 200) {l : List Nat} : next s l (List.replicate 200 0) = l.getD 0 0 := by
  unfold next
  rw [dif_pos (by rw [List.length_replicate]; exact h), List.getElem_replicate, Nat.zero_mod]
theorem all_one {s : S} {i : Nat} (h : ready s = [i]) (picks : List Nat) (k : Nat) : all picks (k + 1) s = all picks k (step s i) := by
  rw [all_go (by rw [h]; simp), h, next_one]
theorem G0.gi {ns : List Int} {s : S} (h : G0 true ns s) : GI ns 0 s := ⟨h.n, h.t0, h.t1, h.lk, by rw [if_pos rfl]; exact h.r7⟩
theorem gi_all {ns : List Int} (picks : List Nat) (k : Nat) : ∀ (m i : Nat) (s : S), GI ns i s → i + m = ns.length → ∃ s', GI ns ns.length s' ∧ all picks (2 * m + k) s = all picks k s'
  | 0, i, s, h, e => ⟨s, by rw [← e]; exact h, by rw [Nat.mul_zero, Nat.zero_add]⟩
  | m + 1, i, s, h, e => by
    obtain ⟨s1, hr, hs, hr1, h1⟩ := g_round h (by omega)
    obtain ⟨s', h', e'⟩ := gi_all picks k m (i + 1) _ h1 (by omega)
    refine ⟨s', h', ?_⟩
    rw [show 2 * (m + 1) + k = (2 * m + k + 1) + 1 by omega, all_one hr, ← hs, all_one hr1, e']
/-- The unlock, and the other's lock. -/
theorem gi_end {ns : List Int} {s : S} (h : GI ns ns.length s) (picks : List Nat) (k : Nat) : ∃ s', all picks (k + 2) s = s' ∧ s'.n = 2 ∧ how s' (s'.ts 0) = 1 ∧ how s' (s'.ts 1) = 1 ∧ s'.regs 7 = s.regs 7 := by
  have hlen := gTask_len true ns
  have ha : (s.ts 0).act = ⟨2, 1, 0, 0⟩ := by rw [h.t0]; exact gTask_end true ns
  have hh0 : how s (s.ts 0) = 3 := how3_of ha (by rw [h.t0]) (by rw [h.t0]; show 1 + 2 * ns.length < (gTask true ns).length; omega) (by simp) (by simp) (by simp) (by simp)
  have hr := ready_first h.n hh0 (by rw [how_t1 h.t1 (by rw [h.lk]; omega)]; omega)
  have hd : doM (mark s 0) 0 = .ok (((mark s 0).setLock 1 (-1)).go 0) := by
    have e : ((mark s 0).ts 0).act = ⟨2, 1, 0, 0⟩ := ha
    have el : (mark s 0).locks 1 = 0 := h.lk
    unfold doM
    rw [e]
    dsimp only
    rw [if_neg (by omega), if_pos rfl]
    rw [if_pos (by show (mark s 0).locks 1 = _; rw [el]; rfl)]
    rfl
  have hs1 : step s 0 = ((mark s 0).setLock 1 (-1)).go 0 := by unfold step; rw [hd]
  rw [all_one hr]
  obtain ⟨s1, hs⟩ : ∃ s1, s1 = step s 0 := ⟨_, rfl⟩
  rw [← hs]
  rw [hs1] at hs
  have k0 : s1.ts 0 = ⟨gTask true ns, 1 + 2 * ns.length + 1, -1, 0, false, 0⟩ := by
    rw [hs, go_ts]
    show { s.ts 0 with pc := (s.ts 0).pc + 1 } = _
    rw [h.t0]
  have k1 : s1.ts 1 = t1G := by rw [hs, go_other _ (by omega)]; exact h.t1
  have kn : s1.n = 2 := by rw [hs]; exact h.n
  have kl : s1.locks 1 = -1 := by
    rw [hs]
    show ((mark s 0).setLock 1 (-1)).locks 1 = -1
    simp [S.setLock, upd]
  have kr : s1.regs 7 = s.regs 7 := by rw [hs]; rfl
  clear hs hs1 hd
  have ha1 : (s1.ts 1).act = ⟨1, 1, 0, 0⟩ := by rw [k1]; rfl
  have hh0 : how s1 (s1.ts 0) = 1 := how1_of (by rw [k0]) (by rw [k0]; show (gTask true ns).length ≤ 1 + 2 * ns.length + 1; omega)
  have hh1 : how s1 (s1.ts 1) = 3 := how3_of ha1 (by rw [k1]; rfl) (by rw [k1]; decide) (by simp) (by simp) (by simp) (fun _ => by show s1.locks 1 < 0; omega)
  have hr := ready_second kn (by rw [hh0]; omega) hh1
  have hd : doM (mark s1 1) 1 = .ok (((mark s1 1).setLock 1 1).go 1) := by
    have e : ((mark s1 1).ts 1).act = ⟨1, 1, 0, 0⟩ := ha1
    unfold doM
    rw [e]
    rfl
  have hs1 : step s1 1 = ((mark s1 1).setLock 1 1).go 1 := by unfold step; rw [hd]
  rw [all_one hr]
  obtain ⟨s2, hs⟩ : ∃ s2, s2 = step s1 1 := ⟨_, rfl⟩
  rw [← hs]
  rw [hs1] at hs
  have j0 : s2.ts 0 = s1.ts 0 := by rw [hs, go_other _ (by omega)]; rfl
  have j1 : s2.ts 1 = ⟨[⟨1, 1, 0, 0⟩], 1, -1, 0, false, 0⟩ := by
    rw [hs, go_ts]
    show { s1.ts 1 with pc := (s1.ts 1).pc + 1 } = _
    rw [k1]; rfl
  have jn : s2.n = 2 := by rw [hs]; exact kn
  have jr : s2.regs 7 = s.regs 7 := by rw [hs]; exact kr
  have g0 : how s2 (s2.ts 0) = 1 := how1_of (by rw [j0, k0]) (by rw [j0, k0]; show (gTask true ns).length ≤ 1 + 2 * ns.length + 1; omega)
  have g1 : how s2 (s2.ts 1) = 1 := how1_of (by rw [j1]) (by rw [j1]; decide)
  exact ⟨s2, all_stop (ready_none jn (by rw [g0]; omega) (by rw [g1]; omega)), jn, g0, g1, jr⟩
theorem guarded_end {ns : List Int} (h1 : 1 ≤ ns.length) (h2 : ns.length ≤ 60) : ∃ s, all (List.replicate 200 0) 400 (begin_ (gTasks true ns) 1) = s ∧ s.n = 2 ∧ how s (s.ts 0) = 1 ∧ how s (s.ts 1) = 1 ∧ s.regs 7 = ns.getD (ns.length - 1) 0 := by
  obtain ⟨hr, h0⟩ := g_first true ns
  obtain ⟨s', h', e'⟩ := gi_all (List.replicate 200 0) (397 - 2 * ns.length + 2) ns.length 0 _ h0.gi (by omega)
  obtain ⟨s2, e2, k1, k2, k3, k4⟩ := gi_end h' (List.replicate 200 0) (397 - 2 * ns.length)
  refine ⟨s2, ?_, k1, k2, k3, ?_⟩
  · rw [show 400 = (2 * ns.length + (397 - 2 * ns.length + 2)) + 1 by omega, all_go (by rw [hr]; simp), next_zero (by show 0 < 200; omega), hr]
    exact e'.trans e2
  · rw [k4, h'.r7, if_neg (by omega)]
theorem unguarded_end {ns : List Int} (h1 : 1 ≤ ns.length) : ∃ s, all (List.replicate 200 0) 400 (begin_ (gTasks false ns) 1) = s ∧ s.n = 2 ∧ how s (s.ts 0) = 2 ∧ (s.ts 0).num = ns.getD 0 0 ∧ how s (s.ts 1) = 4 ∧ s.regs 7 = 0 := by
  obtain ⟨hr, h⟩ := g_first false ns
  rw [show 400 = 399 + 1 from rfl, all_go (by rw [hr]; simp), next_zero (by show 0 < 200; omega), hr]
  show ∃ s, all (List.replicate 200 0) 399 (step (begin_ (gTasks false ns) 1) 0) = s ∧ _
  generalize step (begin_ (gTasks false ns) 1) 0 = s at h
  clear hr
  have hl := gTask_len false ns
  obtain ⟨ha, hb⟩ := gTask_at false ns (i := 0) (by omega)
  have hact : (s.ts 0).act = ⟨11, 0, 0, 0⟩ := by rw [h.t0]; exact ha
  have hh0 : how s (s.ts 0) = 3 := how3_of hact (by rw [h.t0]) (by rw [h.t0]; show 1 < (gTask false ns).length; omega) (by simp) (by simp) (by simp) (by simp)
  have hr := ready_first h.n hh0 (by rw [how_t1 h.t1 (by rw [h.lk]; omega)]; omega)
  have hd : doM (mark s 0) 0 = .ok ((mark s 0).go 0) := by
    have e : ((mark s 0).ts 0).act = ⟨11, 0, 0, 0⟩ := hact
    unfold doM
    rw [e]
    rfl
  have hs1 : step s 0 = (mark s 0).go 0 := by unfold step; rw [hd]
  rw [show 399 = 398 + 1 from rfl, all_one hr]
  obtain ⟨s1, hs⟩ : ∃ s1, s1 = step s 0 := ⟨_, rfl⟩
  rw [← hs]
  rw [hs1] at hs
  have k0 : s1.ts 0 = ⟨gTask false ns, 2, -1, 0, false, 0⟩ := by
    rw [hs, go_ts]
    show { s.ts 0 with pc := (s.ts 0).pc + 1 } = _
    rw [h.t0]
  have k1 : s1.ts 1 = t1G := by rw [hs, go_other _ (by omega)]; exact h.t1
  have kn : s1.n = 2 := by rw [hs]; exact h.n
  have kl : s1.locks 1 = 0 := by rw [hs]; exact h.lk
  have kr : s1.regs 7 = 0 := by rw [hs]; exact h.r7
  clear hs hs1 hd hr
  have hact : (s1.ts 0).act = ⟨12, 0, 0, ns[0]⟩ := by rw [k0]; exact hb
  have hh0 : how s1 (s1.ts 0) = 3 := how3_of hact (by rw [k0]) (by rw [k0]; show 2 < (gTask false ns).length; omega) (by simp) (by simp) (by simp) (by simp)
  have hr := ready_first kn hh0 (by rw [how_t1 k1 (by rw [kl]; omega)]; omega)
  have hd : doM (mark s1 0) 0 = .error ns[0] := by
    have e : ((mark s1 0).ts 0).act = ⟨12, 0, 0, ns[0]⟩ := hact
    unfold doM
    rw [e]
    rfl
  have hs1 : step s1 0 = (mark s1 0).setT 0 { s1.ts 0 with died := true, num := ns[0] } := by
    unfold step
    rw [hd]
    show caught (mark s1 0) 0 ns[0] = _
    have e : ((mark s1 0).ts 0).guard = -1 := by show (s1.ts 0).guard = _; rw [k0]
    unfold caught
    rw [if_pos (by rw [e]; omega)]
    rfl
  rw [show 398 = 397 + 1 from rfl, all_one hr]
  obtain ⟨s2, hs⟩ : ∃ s2, s2 = step s1 0 := ⟨_, rfl⟩
  rw [← hs]
  rw [hs1] at hs
  have j0 : s2.ts 0 = { s1.ts 0 with died := true, num := ns[0] } := by rw [hs, setT_ts]
  have j1 : s2.ts 1 = t1G := by rw [hs, setT_other _ _ (by omega)]; exact k1
  have jn : s2.n = 2 := by rw [hs]; exact kn
  have jl : s2.locks 1 = 0 := by rw [hs]; exact kl
  have jr : s2.regs 7 = 0 := by rw [hs]; exact kr
  have g0 : how s2 (s2.ts 0) = 2 := how2_of (by rw [j0])
  have g1 : how s2 (s2.ts 1) = 4 := how_t1 j1 (by rw [jl]; omega)
  refine ⟨s2, all_stop (ready_none jn (by rw [g0]; omega) (by rw [g1]; omega)), jn, g0, ?_, g1, jr⟩
  rw [j0, List.getD_eq_getElem?_getD, List.getElem?_eq_getElem (by omega)]
  rfl
end Go.Proofs.Ytompelilflckkaa
