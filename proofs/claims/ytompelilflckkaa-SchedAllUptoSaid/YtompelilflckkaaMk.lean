/-
  The scheduler: a task's act, kind by kind: a take.
-/
import Derived.Test.YtompelilflckkaaMj
set_option linter.unusedSimpArgs false
set_option linter.unusedVariables false
namespace Go.Proofs.Ytompelilflckkaa
open Go.RowKit Go.Fl

theorem ints_at {l : List Int} {i : Nat} (h : i < l.length) : (ints l)[i]? = some (iv l[i]) := by simp [ints, h]
theorem drop_ints (l : List Int) (k : Nat) : (ints l).drop (k * 1) = ints (l.drop k) := by simp [ints]
section
variable {w : World} {base r : Nat} {f : Nat → Value} {b : Nat → Nat} {s : S} {i L x y : Nat} {n : Int}
set_option maxRecDepth 100000 in
set_option maxHeartbeats 3200000 in
theorem do7 (h : RS w base r f b s) (hw : WF s L) (hi : i < s.n) (hp : (s.ts i).pc < (s.ts i).acts.length) (ha : (s.ts i).act = ⟨7, x, y, n⟩) (hx : x < 4) (hy : y < 8) (hL : L ≤ 65536) {q0 : Int} {l : List Int} (hqe : s.queues x = q0 :: l) :
    Calls Try.prog 46 #[.pointer (some ⟨r, 0, none⟩), iv i, .pointer (some ⟨b i, 0, none⟩)] w fun e w' => e = .returned (.tuple #[]) ∧ (∃ f', RS w' base r f' b (((s.setReg y q0).setQueue x l).go i)) ∧ Below base w w' := by
  have hq : 0 < (s.queues x).length := by rw [hqe]; simp
  have hd : (s.queues x).drop 1 = l := by rw [hqe]; rfl
  have hg0 : (s.queues x)[0] = q0 := by simp [hqe]
  have HQE := Lib.hid hqe
  clear hqe
  have HA := Lib.hid (act_ok h hi hp)
  have hpl := hw.lens i hi
  rw [ha] at HA
  unfold actV at HA
  dsimp only at HA
  go_enter Try.func46, Try.ntmps46
  go_wp2_with fail
  refine HA.out.mono ?_
  clear HA
  rintro e w2 ⟨rfl, hO2⟩
  obtain ⟨h2, b2⟩ := h.only0 hO2
  obtain ⟨h3, b3⟩ := h2.only0 ((Only.refl [] w2).alloc (.cells #[iv 7, iv x, iv y, iv n] 47))
  have hbx : Blk (w2.alloc (.cells #[iv 7, iv x, iv y, iv n] 47)) w2.heap.size 47 #[iv 7, iv x, iv y, iv n] := Blk.new _ _ _
  have HX := Lib.hid hbx
  have B3 := Lib.hid (b2.trans b3)
  obtain ⟨hcx, _, hltx⟩ := hbx.facts
  have H3 := Lib.hid h3
  have hnr : w2.heap.size ≠ r := fun e => by have := h2.lt; omega
  have hlr := h3.lt
  clear hO2 h2 b2 b3 hbx h
  have hxz : (x : Int) < 4 := by omega
  have hyz : (y : Int) < 8 := by omega
  have hql := hw.queues x
  obtain ⟨cc, hS⟩ := h3.sQueue hx
  obtain ⟨gq, oq, cq, hcv, hgq, hcap, hcm, hcc, _⟩ := hS.form hq
  have c0 := (hcc 0 (by omega)).trans (ints_at hq)
  rw [hcv] at cc
  rw [Nat.add_zero, hg0] at c0
  clear hg0
  have hqz : (0 : Int) < ((s.queues x).length : Int) := by omega
  have cl2 := h3.cReg hy
  have hfr := h3.rc.blk.frozen
  obtain ⟨h4, b4⟩ := h3.reg hy q0
  obtain ⟨h5, b5⟩ := h4.only0 (Only.refl [] _).drew
  have HX5 := Lib.hid ((HX.out.far (p := ⟨r, 14 + y, none⟩) hnr (iv q0)).drew)
  have H5 := Lib.hid h5
  have B5 := Lib.hid ((B3.out.trans b4).trans b5)
  clear h3 h4 b4 h5 b5 hS hcc hcv
  go_wp2
  generalize w2.alloc (.cells #[.int .i64 7, .int .i64 x, .int .i64 y, .int .i64 n] 47) = w3 at *
  refine Lex.wp_region_text (by kernel_rfl) (by kernel_rfl) ?_
  go_wp2
  refine Lex.sq_done (by rfl) ?_
  generalize (w3.setCell ⟨r, 14 + y, none⟩ (.int .i64 q0)).drew = w5 at *
  have hcx5 := HX5.out.cell
  obtain ⟨cc5, hS5⟩ := H5.out.sQueue hx
  have hS5 : Sl w5 2 1 _ (s.queues x).length (ints (s.queues x)) := hS5
  obtain ⟨g5, o5, c5, hcv5, hg5, hcap5, _, _, _⟩ := hS5.form hq
  have HCV := Lib.hid hcv5
  rw [hcv5] at cc5 hS5
  have hfr5 := H5.out.rc.blk.frozen
  have hlr5 := H5.out.lt
  have HS5 := Lib.hid hS5
  have hc1 : 1 ≤ c5 := by omega
  have hc1z : (1 : Int) ≤ (c5 : Int) := by omega
  have hl1z : (1 : Int) ≤ ((s.queues x).length : Int) := by omega
  have HD := Lib.hid hd
  clear hd
  clear hcx c0 cc cl2 hfr hltx hlr hS5 hcv5
  by_cases hca : c5 = 1
  · have HC := HS5.out.cut (k := 1) hq
    rw [if_pos hca, drop_ints] at HC
    obtain ⟨h6, b6, _⟩ := H5.out.queue hx (l := l) (by rw [← HD.out, List.length_drop]; exact HC) (grown_refl _ _) (fun g hg => .inl (by rw [HCV.out]; simpa [Value.ownBlock] using hg))
    have hn1 : (s.queues x).length = 1 := by omega
    have hz1 : (s.queues x).length - 1 = 0 := by omega
    have hz2 : c5 - 1 = 0 := by omega
    rw [hz1, hz2] at h6 b6
    obtain ⟨h7, b7⟩ := h6.only0 (Only.refl [] _).drew
    have H7 := Lib.hid h7
    have B7 := Lib.hid ((B5.out.trans b6).trans b7)
    rw [hn1, hca] at cc5
    clear h6 b6 h7 b7 HC hz1 hz2 hc1z hl1z
    go_wp2
    refine Lex.wp_region_text (by kernel_rfl) (by kernel_rfl) ?_
    go_wp2
    refine Lex.sq_done (by rfl) ?_
    generalize (w5.setCell ⟨r, 10 + x, none⟩ (.slice (some ⟨g5, o5, none⟩) 0 0)).drew = w6 at *
    clear hcx5 hfr5 hlr5 cc5
    have hi7 : i < ((s.setReg y q0).setQueue x l).n := hi
    obtain ⟨v5, hB5, _⟩ := H7.out.task i hi7
    obtain ⟨hc5, hf5, hl5⟩ := hB5.facts
    have hq5 : (((s.setReg y q0).setQueue x l).ts i).pc < (s.ts i).acts.length := hp
    obtain ⟨h8, b8⟩ := H7.out.setT2 hi7 (j := 1) (u := iv ((((s.setReg y q0).setQueue x l).ts i).pc + 1)) (t := { ((s.setReg y q0).setQueue x l).ts i with pc := (((s.setReg y q0).setQueue x l).ts i).pc + 1 }) rfl rfl (fun v => pc_step v _)
    have H8 := Lib.hid h8
    have B8 := Lib.hid (B7.out.trans b8)
    clear hB5 h8 b8
    go_wp2
    go_end0
    exact ⟨rfl, ⟨_, H8.out⟩, B8.out⟩
  · have HC := HS5.out.cut (k := 1) hq
    rw [if_neg hca, drop_ints] at HC
    obtain ⟨h6, b6, _⟩ := H5.out.queue hx (l := l) (by rw [← HD.out, List.length_drop]; exact HC) (grown_refl _ _) (fun g hg => .inl (by rw [HCV.out]; simpa [Value.ownBlock, Addr.add] using hg))
    have hadd : Option.map (fun x => x.add (1 * 1)) (some (⟨g5, o5, none⟩ : Addr)) = some ⟨g5, o5 + 1, none⟩ := by simp [Addr.add]
    rw [hadd] at h6 b6
    obtain ⟨h7, b7⟩ := h6.only0 (Only.refl [] _).drew
    have H7 := Lib.hid h7
    have B7 := Lib.hid ((B5.out.trans b6).trans b7)
    clear h6 b6 h7 b7 HC hadd
    go_wp2
    refine Lex.wp_region_text (by kernel_rfl) (by kernel_rfl) ?_
    go_wp2
    refine Lex.sq_done (by rfl) ?_
    generalize (w5.setCell ⟨r, 10 + x, none⟩ (.slice (some ⟨g5, o5 + 1, none⟩) ((s.queues x).length - 1) (c5 - 1))).drew = w6 at *
    clear hcx5 hfr5 hlr5 cc5
    have hi7 : i < ((s.setReg y q0).setQueue x l).n := hi
    obtain ⟨v5, hB5, _⟩ := H7.out.task i hi7
    obtain ⟨hc5, hf5, hl5⟩ := hB5.facts
    have hq5 : (((s.setReg y q0).setQueue x l).ts i).pc < (s.ts i).acts.length := hp
    obtain ⟨h8, b8⟩ := H7.out.setT2 hi7 (j := 1) (u := iv ((((s.setReg y q0).setQueue x l).ts i).pc + 1)) (t := { ((s.setReg y q0).setQueue x l).ts i with pc := (((s.setReg y q0).setQueue x l).ts i).pc + 1 }) rfl rfl (fun v => pc_step v _)
    have H8 := Lib.hid h8
    have B8 := Lib.hid (B7.out.trans b8)
    clear hB5 h8 b8
    go_wp2
    go_end0
    exact ⟨rfl, ⟨_, H8.out⟩, B8.out⟩
end
end Go.Proofs.Ytompelilflckkaa
/-
  The scheduler: a task's act.
-/
namespace Go.Proofs.Ytompelilflckkaa
open Go.RowKit Go.Fl

/-- What comes of a task's act. -/
def DoPost (base r : Nat) (b : Nat → Nat) (w : World) (s : S) (d : Except Int S) (e : Ending) (w' : World) : Prop :=
  match d with
  | .ok s2 => e = .returned (.tuple #[]) ∧ (∃ f', RS w' base r f' b s2) ∧ Below base w w'
  | .error n => e = .panicked [{ v := boomV n, recovered := false }] ∧ (∃ f', RS w' base r f' b s) ∧ Only [] w w'
section
variable {w : World} {base r : Nat} {f : Nat → Value} {b : Nat → Nat} {s : S} {i L : Nat}
theorem post_ok {args : Array Value} {k : Nat} {d : Except Int S} {s2 : S} (hd : d = .ok s2) (hc : Calls Try.prog k args w fun e w' => e = .returned (.tuple #[]) ∧ (∃ f', RS w' base r f' b s2) ∧ Below base w w') : Calls Try.prog k args w (DoPost base r b w s d) := by
  subst hd
  exact hc
theorem post_err {args : Array Value} {k : Nat} {d : Except Int S} {n : Int} (hd : d = .error n) (hc : Calls Try.prog k args w fun e w' => e = .panicked [{ v := boomV n, recovered := false }] ∧ (∃ f', RS w' base r f' b s) ∧ Only [] w w') : Calls Try.prog k args w (DoPost base r b w s d) := by
  subst hd
  exact hc
theorem nat_of {a : Int} (h : 0 ≤ a) : ∃ x : Nat, a = x := ⟨a.toNat, by omega⟩

theorem do_ok (h : RS w base r f b s) (hw : WF s L) (hL : L ≤ 65536) (hi : i < s.n) (hr : how s (s.ts i) = 3) :
    Calls Try.prog 46 #[.pointer (some ⟨r, 0, none⟩), iv i, .pointer (some ⟨b i, 0, none⟩)] w (DoPost base r b w s (doM s i)) := by
  obtain ⟨hd, hp⟩ := how_ready hr
  have hact : okA (s.ts i).acts.length (s.ts i).act := hw.acts i hi _ (by unfold T.act; rw [List.getD_eq_getElem?_getD, List.getElem?_eq_getElem hp]; exact List.getElem_mem hp)
  have hwt := hw.wait i hi
  have hh : (if ((s.ts i).act.kind = 1 ∧ 0 ≤ s.locks (s.ts i).act.a.toNat) ∨ ((s.ts i).act.kind = 3 ∧ (s.ts i).wait = 2 ∧ 0 ≤ s.locks (s.ts i).act.b.toNat) then (4 : Int)
        else if (s.ts i).act.kind = 3 ∧ (s.ts i).wait = 1 then 5
        else if (s.ts i).act.kind = 6 ∧ s.room ≤ (s.queues (s.ts i).act.a.toNat).length then 6
        else if (s.ts i).act.kind = 7 ∧ s.queues (s.ts i).act.a.toNat = [] then 7
        else 3) = 3 := by
    have h0 := hr
    unfold how at h0
    rwa [if_neg (by simp [hd]), if_neg (by omega)] at h0
  obtain ⟨K, xa, xb, n, ha⟩ : ∃ K xa xb n, (s.ts i).act = ⟨K, xa, xb, n⟩ := ⟨_, _, _, _, rfl⟩
  rw [ha] at hact hh
  have hD : doM s i = doM s i := rfl
  conv at hD => rhs; unfold doM
  rw [ha] at hD
  dsimp only at hact hh hD
  unfold okA at hact
  dsimp only at hact
  rcases hact with ⟨hk, h1, h2, h3, h4⟩ | ⟨hk, h1, h2, h3, h4, h5⟩ | ⟨hk, h1, h2, h3⟩ | ⟨hk, h1, h2, h3, h4, h5⟩ | ⟨hk, h1, h2, h3⟩ | ⟨hk, h1, h2, h3, h4, h5⟩ | ⟨hk, h1, h2, h3, h4, h5⟩ | ⟨hk, h1, h2, h3⟩ | ⟨hk, h1, h2⟩ | ⟨hk, h1, h2, h3, h4⟩
  · obtain ⟨x, rfl⟩ := nat_of h1
    subst h3
    rcases hk with rfl | rfl | rfl | rfl
    · exact post_ok (by rw [hD]; simp) (do1 (y := 0) h hw hi hp ha (by omega))
    · by_cases hl : s.locks x = i
      · exact post_ok (by rw [hD]; simp [hl]) (do2_yes (y := 0) h hw hi hp ha (by omega) hl)
      · exact post_err (by rw [hD]; simp [hl]) (do2_no (y := 0) h hw hi hp ha (by omega) hl)
    · rcases Nat.lt_trichotomy (s.conds x).length 1 with hl | hl | hl
      · have hl : (s.conds x).length = 0 := by omega
        exact post_ok (by rw [hD]; simp [hl]) (do4_0 (y := 0) h hw hi hp ha (by omega) hL hl)
      · exact post_ok (by rw [hD]; simp [hl]) (do4_1 (y := 0) h hw hi hp ha (by omega) hL hl)
      · have hm : min 1 (s.conds x).length = 1 := by omega
        exact post_ok (by rw [hD]; simp [hm]) (do4_2 (y := 0) h hw hi hp ha (by omega) hL hl)
    · exact post_ok (by rw [hD]; simp) (do5 (y := 0) h hw hi hp ha (by omega) hL)
  · obtain ⟨x, rfl⟩ := nat_of h1
    obtain ⟨y, rfl⟩ := nat_of h3
    subst hk
    rcases hwt with hw0 | hw0 | hw0
    · by_cases hl : s.locks y = i
      · exact post_ok (by rw [hD]; simp [hw0, hl]) (do3_one h hw hi hp ha (by omega) (by omega) hw0 hl hL)
      · exact post_err (by rw [hD]; simp [hw0, hl]) (do3_no h hw hi hp ha (by omega) (by omega) hw0 hl)
    · simp [hw0] at hh
    · exact post_ok (by rw [hD]; simp [hw0]) (do3_two h hw hi hp ha (by omega) hw0)
  · obtain ⟨x, rfl⟩ := nat_of h1
    subst hk h3
    exact post_ok (by rw [hD]; simp) (do6 (y := 0) h hw hi hp ha (by omega) hL)
  · obtain ⟨x, rfl⟩ := nat_of h1
    obtain ⟨y, rfl⟩ := nat_of h3
    subst hk
    cases hq : s.queues x with
    | nil => simp [hq] at hh
    | cons q0 l => exact post_ok (by rw [hD]; simp [hq]) (do7 h hw hi hp ha (by omega) (by omega) hL hq)
  · obtain ⟨x, rfl⟩ := nat_of h1
    subst hk h3
    exact post_ok (by rw [hD]; simp) (do8 (y := 0) h hw hi hp ha (by omega))
  · obtain ⟨x, rfl⟩ := nat_of h1
    obtain ⟨y, rfl⟩ := nat_of h3
    subst hk
    exact post_ok (by rw [hD]; simp) (do9 h hw hi hp ha (by omega) (by omega))
  · obtain ⟨x, rfl⟩ := nat_of h1
    subst hk h3
    by_cases hz : s.regs x = 0
    · rcases Int.lt_trichotomy (((s.ts i).pc : Int) + n) ((s.ts i).acts.length : Int) with hm | hm | hm
      · have e : min ((s.ts i).pc + n.toNat) (s.ts i).acts.length = (s.ts i).pc + n.toNat := by omega
        exact post_ok (by rw [hD]; simp [hz, e]) (do10_a (y := 0) h hw hi hp ha h4 h5 (by omega) hz hm)
      · have e : min ((s.ts i).pc + n.toNat) (s.ts i).acts.length = (s.ts i).acts.length := by omega
        exact post_ok (by rw [hD]; simp [hz, e]) (do10_b (y := 0) h hw hi hp ha h4 h5 (by omega) hz hm)
      · have e : min ((s.ts i).pc + n.toNat) (s.ts i).acts.length = (s.ts i).acts.length := by omega
        exact post_ok (by rw [hD]; simp [hz, e]) (do10_c (y := 0) h hw hi hp ha h4 h5 (by omega) hz hm)
    · exact post_ok (by rw [hD]; simp [hz]) (do10_no (y := 0) h hw hi hp ha (by omega) hz)
  · subst hk h1 h2
    exact post_ok (by rw [hD]; simp) (do11 (x := 0) (y := 0) h hw hi hp ha)
  · subst hk h1 h2
    exact post_err (by rw [hD]; simp) (do12 (x := 0) (y := 0) h hw hi hp ha)
  · subst hk h1 h2
    exact post_ok (by rw [hD]; simp) (do13 (x := 0) (y := 0) h hw hi hp ha)
end
end Go.Proofs.Ytompelilflckkaa
