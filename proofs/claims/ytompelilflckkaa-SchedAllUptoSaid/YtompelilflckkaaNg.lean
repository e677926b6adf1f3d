/-
  SchedAll: what its walk needs besides: a run's result that is overwritten; two runs that were refused.
-/
import Derived.Test.YtompelilflckkaaNe
import Derived.Test.YtompelilflckkaaNf
import Derived.Test.YtompelilflckkaaMs
import Derived.Test.YtompelilflckkaaMq
import Derived.Test.YtompelilflckkaaRows
set_option linter.unusedSimpArgs false
set_option linter.unusedVariables false
namespace Go.Proofs.Ytompelilflckkaa
open Go.RowKit Go.Fl

def zran : Value := .agg #[iv 0, .slice none 0 0, .slice none 0 0, .slice none 0 0, .slice none 0 0]
set_option maxRecDepth 100000 in
set_option maxHeartbeats 3200000 in
theorem eq_zero (w : World) : Calls Try.prog 16 #[.agg #[iv 0, .slice none 0 0, .slice none 0 0, .slice none 0 0, .slice none 0 0], .agg #[iv 0, .slice none 0 0, .slice none 0 0, .slice none 0 0, .slice none 0 0]] w fun e w' => e = .returned (.bool true) ∧ Only [] w w' := by
  have hO1 : Only [] w ((w.alloc (.cells #[iv 0, .slice none 0 0, .slice none 0 0, .slice none 0 0, .slice none 0 0] 33)).alloc (.cells #[iv 0, .slice none 0 0, .slice none 0 0, .slice none 0 0, .slice none 0 0] 33)) := ((Only.refl [] w).alloc _).alloc _
  have hrow : ∀ W : World, Row intv W (.slice none 0 0) [] := fun W => ⟨none, 0, rfl, by simp, by simp, fun h => absurd h (Nat.not_lt_zero _)⟩
  have HI := Lib.hid (ints_ok (hrow ((w.alloc (.cells #[iv 0, .slice none 0 0, .slice none 0 0, .slice none 0 0, .slice none 0 0] 33)).alloc (.cells #[iv 0, .slice none 0 0, .slice none 0 0, .slice none 0 0, .slice none 0 0] 33))) (hrow _))
  have hb1 : Blk ((w.alloc (.cells #[iv 0, .slice none 0 0, .slice none 0 0, .slice none 0 0, .slice none 0 0] 33)).alloc (.cells #[iv 0, .slice none 0 0, .slice none 0 0, .slice none 0 0, .slice none 0 0] 33)) w.heap.size 33 #[iv 0, .slice none 0 0, .slice none 0 0, .slice none 0 0, .slice none 0 0] := (Blk.new _ _ _).alloc _
  have hb2 : Blk ((w.alloc (.cells #[iv 0, .slice none 0 0, .slice none 0 0, .slice none 0 0, .slice none 0 0] 33)).alloc (.cells #[iv 0, .slice none 0 0, .slice none 0 0, .slice none 0 0, .slice none 0 0] 33)) (w.heap.size + 1) 33 #[iv 0, .slice none 0 0, .slice none 0 0, .slice none 0 0, .slice none 0 0] := by
    have := Blk.new (w.alloc (.cells #[iv 0, .slice none 0 0, .slice none 0 0, .slice none 0 0, .slice none 0 0] 33)) 33 #[iv 0, .slice none 0 0, .slice none 0 0, .slice none 0 0, .slice none 0 0]
    simpa using this
  have HB1 := Lib.hid hb1
  have HB2 := Lib.hid hb2
  have HO1 := Lib.hid hO1
  clear hb1 hb2 hO1 hrow
  go_enter Try.func16, Try.ntmps16
  go_wp2_with fail
  refine HI.out.mono ?_
  clear HI
  rintro e w1 ⟨rfl, hO2⟩
  have HO := Lib.hid (HO1.out.trans hO2)
  have HC1 := Lib.hid (HB1.out.only hO2 (by simp))
  have HC2 := Lib.hid (HB2.out.only hO2 (by simp))
  clear HB1 HB2 HO1 hO2
  obtain ⟨m1, _, l1'⟩ := HC1.out.facts
  obtain ⟨m2, _, l2'⟩ := HC2.out.facts
  go_wp2
  go_loopw [5] (fun z wr => z = .int .i64 0 ∧ Hid (Only [] w1 wr)) (fun _ _ => 0)
  case atStart => exact ⟨rfl, Lib.hid (Only.refl _ _)⟩
  case round =>
    obtain ⟨w2, hwo⟩ : ∃ x : World, x = wr := ⟨_, rfl⟩
    subst hwo
    obtain ⟨rfl, HO2⟩ := hrel
    clear m1 m2 l1' l2'
    obtain ⟨m1, _, l1'⟩ := (HC1.out.only HO2.out (by simp)).facts
    obtain ⟨m2, _, l2'⟩ := (HC2.out.only HO2.out (by simp)).facts
    go_wp2
    go_loopw [6] (fun z wr => z = .int .i64 0 ∧ Hid (Only [] w2 wr)) (fun _ _ => 0)
    case atStart => exact ⟨rfl, Lib.hid (Only.refl _ _)⟩
    case round =>
      obtain ⟨w3, hwo⟩ : ∃ x : World, x = wr := ⟨_, rfl⟩
      subst hwo
      obtain ⟨rfl, HO3⟩ := hrel
      have HO4 := Lib.hid (HO2.out.trans HO3.out)
      clear m1 m2 l1' l2'
      obtain ⟨m1, _, l1'⟩ := (HC1.out.only HO4.out (by simp)).facts
      obtain ⟨m2, _, l2'⟩ := (HC2.out.only HO4.out (by simp)).facts
      go_wp2
      go_loopw [7] (fun z wr => z = .int .i64 0 ∧ Hid (Only [] w3 wr)) (fun _ _ => 0)
      case atStart => exact ⟨rfl, Lib.hid (Only.refl _ _)⟩
      case round =>
        obtain ⟨w4, hwo⟩ : ∃ x : World, x = wr := ⟨_, rfl⟩
        subst hwo
        obtain ⟨rfl, HO5⟩ := hrel
        have HO6 := Lib.hid (HO4.out.trans HO5.out)
        have HO7 := Lib.hid (HO.out.trans HO6.out)
        clear m1 m2 l1' l2'
        obtain ⟨m1, _, l1'⟩ := (HC1.out.only HO6.out (by simp)).facts
        obtain ⟨m2, _, l2'⟩ := (HC2.out.only HO6.out (by simp)).facts
        go_wp2
        exact bodyPost_ret (results_tmp rfl _ _ _) rfl ⟨rfl, HO7.out⟩
theorem RunV.rd' {B : Nat} {w : World} {s : S} {tr rg en qs : Value} (h : RunV B w s (.agg #[iv s.trace.length, tr, rg, en, qs])) : RD w s tr rg en qs := by
  obtain ⟨tr2, rg2, en2, qs2, he, hr⟩ := h.rd
  injection he with he
  simp only [Array.mk.injEq, List.cons.injEq, and_true, true_and] at he
  obtain ⟨rfl, rfl, rfl, rfl⟩ := he
  exact hr
/-- A slice one of whose block's cells may have been overwritten. -/
theorem Sl.poke {w : World} {e : TypeId} {size n : Nat} {v : Value} {xs : List Value} (h : Sl w e size v n xs) (g k : Nat) (u : Value) : ∃ ys, Sl (w.setCell ⟨g, k, none⟩ u) e size v n ys := by
  by_cases hg : v.ownBlock = some g
  · rcases h.2 with ⟨rfl, _⟩ | ⟨g', off, cap, cur, rfl, hh, hc, hm, hs, ht⟩
    · cases hg
    · obtain rfl : g' = g := by simpa [Value.ownBlock] using hg
      have hb : Blk (w.setCell ⟨g', k, none⟩ u) g' e (cur.setIfInBounds k u) := Blk.set_ (show Blk w g' e cur from hh) k u
      refine ⟨((cur.setIfInBounds k u).toList.drop off).take (n * size), ?_, .inr ⟨g', off, cap, _, rfl, hb, hc, hm, by simpa using hs, rfl⟩⟩
      rw [List.length_take, List.length_drop]
      simp only [Array.length_toList, Array.size_setIfInBounds]
      have : n * size ≤ cap * size := Nat.mul_le_mul_right _ hc
      omega
  · exact ⟨xs, h.far (p := ⟨g, k, none⟩) hg u⟩
/-- A run's result while it is overwritten: in block b; it was laid behind the world wq. -/
structure RV (wq wr : World) (b : Nat) (n4 : Nat → Nat) (n : Nat) (tr rg en qs : Value) (us : List Value) : Prop where
  O : Only [] wq wr
  B : Blk wr b 33 #[iv n, tr, rg, en, qs]
  T : ∃ xs, Sl wr 39 2 tr n xs
  tf : ∀ g, tr.ownBlock = some g → wq.heap.size ≤ g
  Q : Sl wr 29 1 qs 4 us
  E : ∀ j (h : j < us.length), (∃ xs, Sl wr 2 1 us[j] (n4 j) xs) ∧ ∀ g, us[j].ownBlock = some g → wq.heap.size ≤ g
section
variable {wq wr w7 : World} {b n : Nat} {n4 : Nat → Nat} {tr rg en qs : Value} {us : List Value}
theorem RV.only0 (h : RV wq wr b n4 n tr rg en qs us) (ho : Only [] wr w7) : RV wq w7 b n4 n tr rg en qs us := by
  obtain ⟨xs, hT⟩ := h.T
  exact ⟨h.O.trans ho, h.B.only ho (by simp), ⟨xs, hT.only ho (by simp)⟩, h.tf, h.Q.only ho (by simp), fun j hj => by
    obtain ⟨⟨ys, h1⟩, h2⟩ := h.E j hj
    exact ⟨⟨ys, h1.only ho (by simp)⟩, h2⟩⟩
theorem RV.poke (h : RV wq wr b n4 n tr rg en qs us) {g : Nat} {t : TypeId} {cs : Array Value} (hb : Blk wr g t cs) (h1 : t ≠ 33) (h2 : t ≠ 29) (hg : wq.heap.size ≤ g) (k : Nat) (u : Value) : RV wq (wr.setCell ⟨g, k, none⟩ u) b n4 n tr rg en qs us := by
  obtain ⟨xs, hT⟩ := h.T
  refine ⟨h.O.setCell (.inr hg) _, h.B.far (p := ⟨g, k, none⟩) (fun e => ?_) u, Sl.poke hT g k u, h.tf, h.Q.far (p := ⟨g, k, none⟩) (fun e => ?_) u, fun j hj => ?_⟩
  · have e : b = g := e
    subst e
    exact h1 (hb.ty_eq h.B)
  · obtain ⟨cur, hq⟩ := h.Q.ty e
    exact h2 (hb.ty_eq hq)
  · obtain ⟨⟨ys, h3⟩, h4⟩ := h.E j hj
    exact ⟨Sl.poke h3 g k u, h4⟩
/-- A turn is overwritten. -/
theorem RV.turn (h : RV wq wr b n4 n tr rg en qs us) {i : Nat} (hi : i < n) : ∃ g o c, tr = .slice (some ⟨g, o, none⟩) n c ∧ g < wr.heap.size ∧ (∃ x, wr.cell? ⟨g, o + i * 2, none⟩ = some x) ∧ (∃ x, wr.cell? ⟨g, o + i * 2 + 1, none⟩ = some x) ∧ (∀ j, wr.frozen? ⟨g, j, none⟩ = false) ∧
    ∀ u v, RV wq ((wr.setCell ⟨g, o + i * 2, none⟩ u).setCell ⟨g, o + i * 2 + 1, none⟩ v) b n4 n tr rg en qs us := by
  obtain ⟨xs, hT⟩ := h.T
  obtain ⟨g, o, c, hv, hg, _, _, hc, hf⟩ := hT.form (by omega)
  have hl := hT.len
  obtain ⟨cur, hb⟩ := hT.ty (g := g) (by rw [hv]; rfl)
  have hge := h.tf g (by rw [hv]; rfl)
  refine ⟨g, o, c, hv, hg, ⟨_, (hc (i * 2) (by omega)).trans (List.getElem?_eq_getElem (by omega))⟩, ⟨_, by rw [Nat.add_assoc]; exact (hc (i * 2 + 1) (by omega)).trans (List.getElem?_eq_getElem (by omega))⟩, hf, fun u v => ?_⟩
  exact (h.poke hb (by decide) (by decide) hge _ u).poke (hb.set_ _ u) (by decide) (by decide) hge _ v
/-- A queue's number is overwritten. -/
theorem RV.num (h : RV wq wr b n4 n tr rg en qs us) {i : Nat} (hi : i < 4) : ∃ g o c, qs = .slice (some ⟨g, o, none⟩) 4 c ∧ g < wr.heap.size ∧ ∃ a c2, wr.cell? ⟨g, o + i, none⟩ = some (.slice a (n4 i) c2) ∧
    ∀ k, k < n4 i → ∃ g2 o2, a = some ⟨g2, o2, none⟩ ∧ g2 < wr.heap.size ∧ (∃ x, wr.cell? ⟨g2, o2 + k, none⟩ = some x) ∧ (∀ j, wr.frozen? ⟨g2, j, none⟩ = false) ∧ ∀ u, RV wq (wr.setCell ⟨g2, o2 + k, none⟩ u) b n4 n tr rg en qs us := by
  obtain ⟨g, o, c, hv, hg, _, _, hc, _⟩ := h.Q.form (by omega)
  have hl := h.Q.len
  obtain ⟨⟨ys, h3⟩, h4⟩ := h.E i (by omega)
  obtain ⟨a, c2, ha, _, _⟩ := h3.shape
  refine ⟨g, o, c, hv, hg, a, c2, by rw [hc i (by omega), List.getElem?_eq_getElem (by omega), ha], fun k hk => ?_⟩
  obtain ⟨g2, o2, c3, hv2, hg2, _, _, hc2, hf2⟩ := h3.form (by omega)
  have hl2 := h3.len
  rw [ha] at hv2
  injection hv2 with e1 _ _
  obtain ⟨cur, hb⟩ := h3.ty (g := g2) (by rw [ha, e1]; rfl)
  exact ⟨g2, o2, e1, hg2, ⟨_, (hc2 k (by omega)).trans (List.getElem?_eq_getElem (by omega))⟩, hf2, fun u => h.poke hb (by decide) (by decide) (h4 g2 (by rw [ha, e1]; rfl)) _ u⟩
end
/-- Of a run's result just laid in a block. -/
theorem RunV.rv {wq w8 w9 : World} {s : S} {tr rg en qs : Value} (h : RunV w8.heap.size w9 s (.agg #[iv s.trace.length, tr, rg, en, qs])) (h1 : Only [] wq w8) (h2 : Below w8.heap.size w8 w9) : ∃ us, RV wq (w9.alloc (.cells #[iv s.trace.length, tr, rg, en, qs] 33)) w9.heap.size (fun j => (s.queues j).length) s.trace.length tr rg en qs us := by
  obtain ⟨tr2, rg2, en2, qs2, us, he, ht, _, _, hq, hE, f1, _, _, _⟩ := h.it
  injection he with he
  simp only [Array.mk.injEq, List.cons.injEq, and_true, true_and] at he
  obtain ⟨rfl, rfl, rfl, rfl⟩ := he
  refine ⟨us, (h1.trans (Only.of_below h2 [])).alloc _, Blk.new _ _ _, ⟨_, ht.alloc _⟩, fun g hg => Nat.le_trans h1.size (f1 g hg), hq.alloc _, fun j hj => ⟨⟨_, (hE j hj).1.alloc _⟩, fun g hg => Nat.le_trans h1.size ((hE j hj).2 g hg)⟩⟩
end Go.Proofs.Ytompelilflckkaa
/-
  SchedAll: its walk: the scheduler's runs and the document's own are the same, told twice, and who is ready.
-/
namespace Go.Proofs.Ytompelilflckkaa
open Go.RowKit Go.Fl

theorem run_lens {acts : List (List A)} {room most : Int} {ps : List Int} (hk : askedM acts room ps most = 0) :
    (all (ps.map Int.toNat) most.toNat (begin_ acts room)).trace.length ≤ 65536 ∧ ∀ j, ((all (ps.map Int.toNat) most.toNat (begin_ acts room)).queues j).length ≤ 65536 := by
  obtain ⟨q1, q2, q3, q4, q5, q6, q7, q8, q9, q10⟩ := asked_zero hk
  obtain ⟨h1, h2, h3⟩ := all_wf (ps.map Int.toNat) most.toNat _ _ (begin_wf q1 q2 q3 q8 q9 q10)
  have e : (begin_ acts room).trace.length = 0 := rfl
  exact ⟨by omega, fun j => Nat.le_trans (h1.queues j) (by omega)⟩
set_option maxRecDepth 100000 in
set_option maxHeartbeats 32000000 in
theorem all_walk {w : World} {tv pv : Value} {acts : List (List A)} {ps : List Int} (room most : Int) (h : TasksV w.heap.size w tv acts) (hp : Row intv w pv ps) (hpo : ∀ g, pv.ownBlock = some g → g < w.heap.size) (hm : ∀ l ∈ acts, l.length ≤ 1048576) :
    Calls Try.prog 3 #[tv, iv room, pv, iv most] w fun e w' => e = .returned (.bool true) ∧ Only [] w w' := by
  have HT := Lib.hid h
  have HP := Lib.hid hp
  have HPO := Lib.hid hpo
  have HM := Lib.hid hm
  obtain ⟨ta, tc, htv, _, htm, _⟩ := h
  obtain ⟨pa, pc, hpv, _, hpm, _⟩ := hp
  subst htv hpv
  have HB := Lib.hid (begun_ok w)
  clear hpo hm
  by_cases h40 : acts.length ≤ 40
  · have h40z : ¬ (40 : Int) < (acts.length : Int) := by omega
    by_cases hp3 : ps.length ≤ 3000
    · have hp3z : ¬ (3000 : Int) < (ps.length : Int) := by omega
      go_enter Try.func3, Try.ntmps3
      go_wp2_with fail
      refine HB.out.mono ?_
      clear HB
      rintro e w1 ⟨rfl, hO1⟩
      have HO1 := Lib.hid hO1
      have HTW := Lib.hid (twin_ok (HT.out.below (Below.of_only hO1 (Nat.le_refl _))).here h40 HM.out)
      clear hO1
      go_wp2_with fail
      refine HTW.out.mono ?_
      clear HTW
      rintro e w2 ⟨hv, us, rfl, hus, hW, hO2⟩
      have HO2 := Lib.hid (HO1.out.trans hO2)
      have HTW := Lib.hid hW
      have HUS := Lib.hid hus
      have HMA := Lib.hid (may_ok (hW.tasks hus) (Nat.le_refl _))
      clear hO2 hW hus HO1
      go_wp2_with fail
      refine HMA.out.mono ?_
      clear HMA
      rintro e w3 ⟨rfl, hO3⟩
      have HO3 := Lib.hid hO3
      have HMB := Lib.hid (may2_ok (HT.out.below (Below.of_only (HO2.out.trans hO3) (Nat.le_refl _))).here)
      clear hO3
      generalize mayM acts = M at *
      go_wp2_with fail
      refine HMB.out.mono ?_
      clear HMB
      rintro e w4 ⟨rfl, hO4⟩
      have HO4 := Lib.hid (HO3.out.trans hO4)
      clear hO4 HO3
      go_wp2_with fail
      refine (few_ok _ most).mono ?_
      rintro e w5 ⟨rfl, hw5⟩
      rw [hw5]
      clear hw5
      obtain ⟨fm, hfm⟩ : ∃ x, fewM most = x := ⟨_, rfl⟩
      rw [hfm]
      have HFM := Lib.hid hfm
      clear hfm
      by_cases hk : askedM acts room ps fm = 0
      · have HK := Lib.hid hk
        have HRR := Lib.hid (rrun_ok room fm (HT.out.below (Below.of_only (HO2.out.trans HO4.out) (Nat.le_refl _))).here (HP.out.only (HO2.out.trans HO4.out)) (fun g hg => Nat.lt_of_lt_of_le (HPO.out g hg) (HO2.out.trans HO4.out).size) hk)
        obtain ⟨hl1, hl2⟩ := run_lens hk
        obtain ⟨s, hs⟩ : ∃ s, all (ps.map Int.toNat) fm.toNat (begin_ acts room) = s := ⟨_, rfl⟩
        rw [hs] at HRR hl1 hl2
        have HS := Lib.hid hs
        have HL2 := Lib.hid hl2
        clear hs hk hl2
        go_wp2_with fail
        refine HRR.out.mono ?_
        clear HRR
        rintro e w5 ⟨tr, rg, en, qs, rfl, hD, hO5⟩
        have HO5 := Lib.hid (HO4.out.trans hO5)
        obtain ⟨⟨x5, xc5, hx5⟩, ⟨r5, rc5, hr5⟩, ⟨e5, ec5, he5⟩, q5, qc5, hq5⟩ := hD.shapes
        subst hx5 hr5 he5 hq5
        have HBQ : Hid (Blk (w5.alloc (.cells #[iv s.trace.length, .slice x5 s.trace.length xc5, .slice r5 8 rc5, .slice e5 s.n ec5, .slice q5 4 qc5] 33)) w5.heap.size 33 #[iv s.trace.length, .slice x5 s.trace.length xc5, .slice r5 8 rc5, .slice e5 s.n ec5, .slice q5 4 qc5]) := Lib.hid (Blk.new _ _ _)
        have HDQ : Hid (RD (w5.alloc (.cells #[iv s.trace.length, .slice x5 s.trace.length xc5, .slice r5 8 rc5, .slice e5 s.n ec5, .slice q5 4 qc5] 33)) s (.slice x5 s.trace.length xc5) (.slice r5 8 rc5) (.slice e5 s.n ec5) (.slice q5 4 qc5)) := Lib.hid (hD.only ((Only.refl _ _).alloc _))
        clear hD hO5
        go_wp2
        have HOQ : Hid (Only [] w2 (w5.alloc (.cells #[iv s.trace.length, .slice x5 s.trace.length xc5, .slice r5 8 rc5, .slice e5 s.n ec5, .slice q5 4 qc5] 33))) := Lib.hid (HO5.out.alloc _)
        generalize w5.alloc (.cells #[.int .i64 s.trace.length, .slice x5 s.trace.length xc5, .slice r5 8 rc5, .slice e5 s.n ec5, .slice q5 4 qc5] 33) = wq at *
        generalize w5.heap.size = gq at *
        go_loopw [12, 13, 14, 15, 16, 17] (fun z x13 x14 x15 x16 x17 wr => ∃ (n : Nat), n ≤ 2 ∧ z = .int .i64 n ∧ Hid (Only [] wq wr)) (fun z _ _ _ _ _ _ => 2 - (intOf z).toNat)
        case atStart => exact ⟨0, Nat.zero_le _, rfl, Lib.hid (Only.refl _ _)⟩
        case round =>
          obtain ⟨w6, hwo⟩ : ∃ x : World, x = wr := ⟨_, rfl⟩
          subst hwo
          obtain ⟨n, hn, rfl, HO6⟩ := hrel
          by_cases hn2 : n < 2
          · have hn2z : (n : Int) < 2 := by omega
            have HOX := Lib.hid (HOQ.out.trans HO6.out)
            have HRN := Lib.hid (run_ok room fm ((HTW.out.only0 HOX.out).tasks HUS.out) (HP.out.only (HO2.out.trans HOX.out)) (fun g hg => Nat.lt_of_lt_of_le (HPO.out g hg) (HO2.out.trans HOX.out).size) HK.out)
            rw [HS.out] at HRN
            go_wp2_with fail
            refine (few_ok _ most).mono ?_
            rintro e w7 ⟨rfl, hw7⟩
            rw [hw7, HFM.out]
            clear hw7
            go_wp2_with fail
            refine HRN.out.mono ?_
            clear HRN
            rintro e w7 ⟨v7, rfl, hV7, hB7⟩
            obtain ⟨tr7, rg7, en7, qs7, hv7, hD7⟩ := hV7.rd
            subst hv7
            obtain ⟨us7, hRV⟩ := hV7.rv HO6.out hB7
            obtain ⟨⟨y1, yc1, hy1⟩, ⟨y2, yc2, hy2⟩, ⟨y3, yc3, hy3⟩, y4, yc4, hy4⟩ := hD7.shapes
            subst hy1 hy2 hy3 hy4
            have hoA : Only [] w7 (w7.alloc (.cells #[iv s.trace.length, .slice y1 s.trace.length yc1, .slice y2 8 yc2, .slice y3 s.n yc3, .slice y4 4 yc4] 33)) := (Only.refl _ _).alloc _
            have HEQ := Lib.hid (eq_ok (hD7.only hoA) (HDQ.out.only hRV.O))
            have HRV := Lib.hid hRV
            obtain ⟨hcA, _, hlA⟩ := (HBQ.out.only (HO6.out.trans (Only.of_below hB7 [])) (by simp)).facts
            clear hV7 hD7 hRV hoA hB7
            go_wp2_with fail
            refine HEQ.out.mono ?_
            clear HEQ hcA hlA
            rintro e w9 ⟨rfl, hO9⟩
            have HR9 := Lib.hid (HRV.out.only0 hO9)
            clear HRV hO9
            generalize w7.heap.size = g7 at *
            obtain ⟨hc9, _, hl9⟩ := HR9.out.B.facts
            go_wp2
            clear hc9 hl9
            go_loopw [15] (fun z wr => ∃ (i : Nat), i ≤ s.trace.length ∧ z = .int .i64 i ∧ Hid (RV wq wr g7 (fun j => (s.queues j).length) s.trace.length (.slice y1 s.trace.length yc1) (.slice y2 8 yc2) (.slice y3 s.n yc3) (.slice y4 4 yc4) us7)) (fun z _ => s.trace.length - (intOf z).toNat)
            case atStart => exact ⟨0, Nat.zero_le _, rfl, HR9⟩
            case round =>
              obtain ⟨wa, hwo⟩ : ∃ x : World, x = wr := ⟨_, rfl⟩
              subst hwo
              obtain ⟨i, hi, rfl, HRa⟩ := hrel
              clear HR9
              obtain ⟨hca, _, hla⟩ := HRa.out.B.facts
              by_cases hil : i < s.trace.length
              · have hilz : (i : Int) < (s.trace.length : Int) := by omega
                obtain ⟨gt, ot, ct, hvt, hgt, ⟨p0, hp0⟩, ⟨p1, hp1⟩, hft, hset⟩ := HRa.out.turn hil
                injection hvt with hv1 _ hv3
                subst hv1 hv3
                have HSET := Lib.hid (hset (iv (-1)) (iv 0))
                clear hset
                go_wp2
                go_roundw
                case measure => simp [intOf]; omega
                case rel => exact ⟨i + 1, by omega, by go_num, HSET⟩
              · obtain rfl : i = s.trace.length := by omega
                go_wp2
                clear hca hla
                go_loopw [16, 17] (fun z x17 wr => ∃ (i : Nat), i ≤ 4 ∧ z = .int .i64 i ∧ Hid (RV wq wr g7 (fun j => (s.queues j).length) s.trace.length (.slice y1 s.trace.length yc1) (.slice y2 8 yc2) (.slice y3 s.n yc3) (.slice y4 4 yc4) us7)) (fun z _ _ => 4 - (intOf z).toNat)
                case atStart => exact ⟨0, Nat.zero_le _, rfl, HRa⟩
                case round =>
                  obtain ⟨wb, hwo⟩ : ∃ x : World, x = wr := ⟨_, rfl⟩
                  subst hwo
                  obtain ⟨i, hi, rfl, HRb⟩ := hrel
                  clear HRa
                  obtain ⟨hcb, _, hlb⟩ := HRb.out.B.facts
                  by_cases hi4 : i < 4
                  · have hi4z : (i : Int) < 4 := by omega
                    have hqi := HL2.out i
                    go_wp2
                    clear hcb hlb
                    go_loopw [17] (fun z wr => ∃ (k : Nat), k ≤ (s.queues i).length ∧ z = .int .i64 k ∧ Hid (RV wq wr g7 (fun j => (s.queues j).length) s.trace.length (.slice y1 s.trace.length yc1) (.slice y2 8 yc2) (.slice y3 s.n yc3) (.slice y4 4 yc4) us7)) (fun z _ => (s.queues i).length - (intOf z).toNat)
                    case atStart => exact ⟨0, Nat.zero_le _, rfl, HRb⟩
                    case round =>
                      obtain ⟨wd, hwo⟩ : ∃ x : World, x = wr := ⟨_, rfl⟩
                      subst hwo
                      obtain ⟨k, hkk, rfl, HRd⟩ := hrel
                      clear HRb
                      obtain ⟨hcd, _, hld⟩ := HRd.out.B.facts
                      obtain ⟨gz, oz, cz, hvz, hgz, az, c2z, hcz, hnum⟩ := HRd.out.num hi4
                      injection hvz with hv1 _ hv3
                      subst hv1 hv3
                      by_cases hkl : k < (s.queues i).length
                      · have hklz : (k : Int) < ((s.queues i).length : Int) := by omega
                        obtain ⟨g2, o2, haz, hg2, ⟨x0, hx0⟩, hf2, hset⟩ := hnum k hkl
                        subst haz
                        have HSET := Lib.hid (hset (iv (-5)))
                        clear hset hnum
                        go_wp2
                        go_roundw
                        case measure => simp [intOf]; omega
                        case rel => exact ⟨k + 1, by omega, by go_num, HSET⟩
                      · obtain rfl : k = (s.queues i).length := by omega
                        clear hnum
                        go_wp2
                        go_roundw
                        case measure => simp [intOf]; omega
                        case rel => exact ⟨i + 1, by omega, by go_num, HRd⟩
                  · obtain rfl : i = 4 := by omega
                    go_wp2
                    go_roundw
                    case measure => simp [intOf]; omega
                    case rel => exact ⟨n + 1, by omega, by go_num, Lib.hid HRb.out.O⟩
          · obtain rfl : n = 2 := by omega
            have HOX := Lib.hid (HOQ.out.trans HO6.out)
            by_cases hr0 : askedM acts room ps 0 = 0
            · have HR1 := Lib.hid (ready_run room ((HTW.out.only0 HOX.out).tasks HUS.out) (HP.out.only (HO2.out.trans HOX.out)) (fun g hg => Nat.lt_of_lt_of_le (HPO.out g hg) (HO2.out.trans HOX.out).size) hr0)
              go_wp2_with fail
              refine HR1.out.mono ?_
              clear HR1
              rintro e wa ⟨u, rfl, hSu, _, hBa⟩
              have HOa := Lib.hid (HOX.out.trans (Only.of_below hBa []))
              have HSU := Lib.hid hSu
              clear hSu hBa
              have HR2 := Lib.hid (rready_ok room ((HT.out.below (Below.of_only (HO2.out.trans HOa.out) (Nat.le_refl _))).here) (HP.out.only (HO2.out.trans HOa.out)) (fun g hg => Nat.lt_of_lt_of_le (HPO.out g hg) (HO2.out.trans HOa.out).size) hr0)
              obtain ⟨R, hR⟩ : ∃ R, R = ready (all (ps.map Int.toNat) ps.length (begin_ acts room)) := ⟨_, rfl⟩
              rw [← hR] at HR2 HSU
              clear hR
              go_wp2_with fail
              refine HR2.out.mono ?_
              clear HR2
              rintro e wb ⟨v, rfl, hSv, hOb⟩
              have HOb := Lib.hid (HOa.out.trans hOb)
              have HSU2 := Lib.hid (HSU.out.only hOb (by simp))
              have HSV := Lib.hid hSv
              have hRm := sl_max hSv
              have hRm2 : (R.length : Int) ≤ 9223372036854775807 := by
                unfold maxLen at hRm
                omega
              clear hSv hOb HSU hRm
              obtain ⟨ua, uc, hu, _, _⟩ := HSU2.out.shape
              obtain ⟨va, vc, hv, _, _⟩ := HSV.out.shape
              subst hu hv
              go_wp2
              go_loopw [21] (fun z wr => ∃ j : Nat, j ≤ R.length ∧ z = .int .i64 j ∧ Hid (Only [] wb wr)) (fun z _ => R.length - (intOf z).toNat)
              case atStart => exact ⟨0, Nat.zero_le _, rfl, Lib.hid (Only.refl _ _)⟩
              case round =>
                obtain ⟨wc, hwo⟩ : ∃ x : World, x = wr := ⟨_, rfl⟩
                subst hwo
                obtain ⟨j, hj, rfl, HOj⟩ := hrel
                by_cases hjR : j < R.length
                · have hjz : (j : Int) < (R.length : Int) := by omega
                  obtain ⟨gu, ou, cu, hu, hgu, _, _, hcu, _⟩ := (HSU2.out.only HOj.out (by simp)).form (by omega)
                  obtain ⟨gv, ov, cv, hv, hgv, _, _, hcv, _⟩ := (HSV.out.only HOj.out (by simp)).form (by omega)
                  injection hu with hu _ hu3
                  injection hv with hv _ hv3
                  subst hu hv hu3 hv3
                  have hxu := (hcu j (by omega)).trans (nats_at hjR)
                  have hxv := (hcv j (by omega)).trans (nats_at hjR)
                  clear hcu hcv
                  generalize (R[j] : Nat) = xj at hxu hxv
                  go_wp2
                  go_quiet (fail)
                  go_wp2
                  go_roundw
                  case measure => simp [intOf]; omega
                  case rel => exact ⟨j + 1, by omega, by go_num, Lib.hid (HOj.out.drewN _)⟩
                · obtain rfl : j = R.length := by omega
                  have HOk := Lib.hid (HOb.out.trans HOj.out)
                  have HKP := Lib.hid (kept_ok ((HT.out.below (Below.of_only (HO2.out.trans HOk.out) (Nat.le_refl _))).here) (HTW.out.only0 HOk.out) HUS.out h40 HM.out)
                  go_wp2_with fail
                  refine HKP.out.mono ?_
                  clear HKP
                  rintro e wz ⟨rfl, hOz⟩
                  have HOZ := Lib.hid ((HO2.out.trans HOk.out).trans hOz)
                  clear hOz
                  go_wp2
                  exact bodyPost_ret (results_tmp rfl _ _ _) rfl ⟨rfl, HOZ.out⟩
            · have HR1 := Lib.hid (ready_bad room ((HTW.out.only0 HOX.out).tasks HUS.out) (HP.out.only (HO2.out.trans HOX.out)) hr0)
              go_wp2_with fail
              refine HR1.out.mono ?_
              clear HR1
              rintro e wa ⟨rfl, hOa⟩
              have HOa := Lib.hid (HOX.out.trans hOa)
              clear hOa
              have HR2 := Lib.hid (rready_bad room ((HT.out.below (Below.of_only (HO2.out.trans HOa.out) (Nat.le_refl _))).here) (HP.out.only (HO2.out.trans HOa.out)) hr0)
              generalize askedM acts room ps 0 = m0 at *
              go_wp2_with fail
              refine HR2.out.mono ?_
              clear HR2
              rintro e wb ⟨rfl, hOb⟩
              have HOb := Lib.hid (HOa.out.trans hOb)
              clear hOb
              go_wp2
              go_loopw [21] (fun z wr => z = .int .i64 0 ∧ Hid (Only [] wb wr)) (fun _ _ => 0)
              case atStart => exact ⟨rfl, Lib.hid (Only.refl _ _)⟩
              case round =>
                obtain ⟨wc, hwo⟩ : ∃ x : World, x = wr := ⟨_, rfl⟩
                subst hwo
                obtain ⟨rfl, HOj⟩ := hrel
                have HOk := Lib.hid (HOb.out.trans HOj.out)
                have HKP := Lib.hid (kept_ok ((HT.out.below (Below.of_only (HO2.out.trans HOk.out) (Nat.le_refl _))).here) (HTW.out.only0 HOk.out) HUS.out h40 HM.out)
                go_wp2_with fail
                refine HKP.out.mono ?_
                clear HKP
                rintro e wz ⟨rfl, hOz⟩
                have HOZ := Lib.hid ((HO2.out.trans HOk.out).trans hOz)
                clear hOz
                go_wp2
                exact bodyPost_ret (results_tmp rfl _ _ _) rfl ⟨rfl, HOZ.out⟩
      · have HRR := Lib.hid (rrun_bad room fm (HT.out.below (Below.of_only (HO2.out.trans HO4.out) (Nat.le_refl _))).here (HP.out.only (HO2.out.trans HO4.out)) hk)
        have HK := Lib.hid hk
        have HRNB : Hid (∀ W, Only [] w2 W → Calls Try.prog 15 #[hv, iv room, .slice pa ps.length pc, iv fm] W fun e w' => e = .returned (.tuple #[.agg #[iv 0, .slice none 0 0, .slice none 0 0, .slice none 0 0, .slice none 0 0], iv (askedM acts room ps fm)]) ∧ Only [] W w') := Lib.hid (fun W ho => run_bad room fm ((HTW.out.only0 ho).tasks HUS.out) (HP.out.only (HO2.out.trans ho)) HK.out)
        clear hk
        generalize askedM acts room ps fm = mb at *
        clear HK
        go_wp2_with fail
        refine HRR.out.mono ?_
        clear HRR
        rintro e w5 ⟨rfl, hO5⟩
        have HO5 := Lib.hid (HO4.out.trans hO5)
        clear hO5
        go_wp2
        have HBQ : Hid (Blk (w5.alloc (.cells #[iv 0, .slice none 0 0, .slice none 0 0, .slice none 0 0, .slice none 0 0] 33)) w5.heap.size 33 #[iv 0, .slice none 0 0, .slice none 0 0, .slice none 0 0, .slice none 0 0]) := Lib.hid (Blk.new _ _ _)
        have HOQ : Hid (Only [] w2 (w5.alloc (.cells #[iv 0, .slice none 0 0, .slice none 0 0, .slice none 0 0, .slice none 0 0] 33))) := Lib.hid (HO5.out.alloc _)
        generalize w5.alloc (.cells #[iv 0, .slice none 0 0, .slice none 0 0, .slice none 0 0, .slice none 0 0] 33) = wq at *
        generalize w5.heap.size = gq at *
        go_loopw [12, 13, 14, 15, 16, 17] (fun z x13 x14 x15 x16 x17 wr => ∃ (n : Nat), n ≤ 2 ∧ z = .int .i64 n ∧ Hid (Only [] wq wr)) (fun z _ _ _ _ _ _ => 2 - (intOf z).toNat)
        case atStart => exact ⟨0, Nat.zero_le _, rfl, Lib.hid (Only.refl _ _)⟩
        case round =>
          obtain ⟨w6, hwo⟩ : ∃ x : World, x = wr := ⟨_, rfl⟩
          subst hwo
          obtain ⟨n, hn, rfl, HO6⟩ := hrel
          by_cases hn2 : n < 2
          · have hn2z : (n : Int) < 2 := by omega
            have HOX := Lib.hid (HOQ.out.trans HO6.out)
            have HRN := Lib.hid (HRNB.out _ HOX.out)
            go_wp2_with fail
            refine (few_ok _ most).mono ?_
            rintro e w7 ⟨rfl, hw7⟩
            rw [hw7, HFM.out]
            clear hw7
            go_wp2_with fail
            refine HRN.out.mono ?_
            clear HRN
            rintro e w7 ⟨rfl, hO7⟩
            have HO7 := Lib.hid (HO6.out.trans hO7)
            clear hO7
            have HEQ := Lib.hid (eq_zero (w7.alloc (.cells #[iv 0, .slice none 0 0, .slice none 0 0, .slice none 0 0, .slice none 0 0] 33)))
            obtain ⟨hcA, _, hlA⟩ := (HBQ.out.only HO7.out (by simp)).facts
            go_wp2_with fail
            refine HEQ.out.mono ?_
            clear HEQ hcA hlA
            rintro e w9 ⟨rfl, hO9⟩
            have HB9 := Lib.hid ((Blk.new w7 33 #[iv 0, .slice none 0 0, .slice none 0 0, .slice none 0 0, .slice none 0 0]).only hO9 (by simp))
            have HO9 := Lib.hid ((HO7.out.alloc (.cells #[iv 0, .slice none 0 0, .slice none 0 0, .slice none 0 0, .slice none 0 0] 33)).trans hO9)
            clear hO9
            generalize w7.heap.size = g7 at *
            obtain ⟨hc9, _, hl9⟩ := HB9.out.facts
            go_wp2
            clear hc9 hl9
            go_loopw [15] (fun z wr => z = .int .i64 0 ∧ Hid (Only [] w9 wr)) (fun _ _ => 0)
            case atStart => exact ⟨rfl, Lib.hid (Only.refl _ _)⟩
            case round =>
              obtain ⟨wa, hwo⟩ : ∃ x : World, x = wr := ⟨_, rfl⟩
              subst hwo
              obtain ⟨rfl, HOa⟩ := hrel
              obtain ⟨hca, _, hla⟩ := (HB9.out.only HOa.out (by simp)).facts
              go_wp2
              clear hca hla
              go_loopw [16, 17] (fun z x17 wr => z = .int .i64 0 ∧ Hid (Only [] wa wr)) (fun _ _ _ => 0)
              case atStart => exact ⟨rfl, Lib.hid (Only.refl _ _)⟩
              case round =>
                obtain ⟨wb, hwo⟩ : ∃ x : World, x = wr := ⟨_, rfl⟩
                subst hwo
                obtain ⟨rfl, HOb⟩ := hrel
                obtain ⟨hcb, _, hlb⟩ := (HB9.out.only (HOa.out.trans HOb.out) (by simp)).facts
                go_wp2
                go_roundw
                case measure => simp [intOf]; omega
                case rel => exact ⟨n + 1, by omega, by go_num, Lib.hid (HO9.out.trans (HOa.out.trans HOb.out))⟩
          · obtain rfl : n = 2 := by omega
            have HOX := Lib.hid (HOQ.out.trans HO6.out)
            clear HRNB
            by_cases hr0 : askedM acts room ps 0 = 0
            · have HR1 := Lib.hid (ready_run room ((HTW.out.only0 HOX.out).tasks HUS.out) (HP.out.only (HO2.out.trans HOX.out)) (fun g hg => Nat.lt_of_lt_of_le (HPO.out g hg) (HO2.out.trans HOX.out).size) hr0)
              go_wp2_with fail
              refine HR1.out.mono ?_
              clear HR1
              rintro e wa ⟨u, rfl, hSu, _, hBa⟩
              have HOa := Lib.hid (HOX.out.trans (Only.of_below hBa []))
              have HSU := Lib.hid hSu
              clear hSu hBa
              have HR2 := Lib.hid (rready_ok room ((HT.out.below (Below.of_only (HO2.out.trans HOa.out) (Nat.le_refl _))).here) (HP.out.only (HO2.out.trans HOa.out)) (fun g hg => Nat.lt_of_lt_of_le (HPO.out g hg) (HO2.out.trans HOa.out).size) hr0)
              obtain ⟨R, hR⟩ : ∃ R, R = ready (all (ps.map Int.toNat) ps.length (begin_ acts room)) := ⟨_, rfl⟩
              rw [← hR] at HR2 HSU
              clear hR
              go_wp2_with fail
              refine HR2.out.mono ?_
              clear HR2
              rintro e wb ⟨v, rfl, hSv, hOb⟩
              have HOb := Lib.hid (HOa.out.trans hOb)
              have HSU2 := Lib.hid (HSU.out.only hOb (by simp))
              have HSV := Lib.hid hSv
              have hRm := sl_max hSv
              have hRm2 : (R.length : Int) ≤ 9223372036854775807 := by
                unfold maxLen at hRm
                omega
              clear hSv hOb HSU hRm
              obtain ⟨ua, uc, hu, _, _⟩ := HSU2.out.shape
              obtain ⟨va, vc, hv, _, _⟩ := HSV.out.shape
              subst hu hv
              go_wp2
              go_loopw [21] (fun z wr => ∃ j : Nat, j ≤ R.length ∧ z = .int .i64 j ∧ Hid (Only [] wb wr)) (fun z _ => R.length - (intOf z).toNat)
              case atStart => exact ⟨0, Nat.zero_le _, rfl, Lib.hid (Only.refl _ _)⟩
              case round =>
                obtain ⟨wc, hwo⟩ : ∃ x : World, x = wr := ⟨_, rfl⟩
                subst hwo
                obtain ⟨j, hj, rfl, HOj⟩ := hrel
                by_cases hjR : j < R.length
                · have hjz : (j : Int) < (R.length : Int) := by omega
                  obtain ⟨gu, ou, cu, hu, hgu, _, _, hcu, _⟩ := (HSU2.out.only HOj.out (by simp)).form (by omega)
                  obtain ⟨gv, ov, cv, hv, hgv, _, _, hcv, _⟩ := (HSV.out.only HOj.out (by simp)).form (by omega)
                  injection hu with hu _ hu3
                  injection hv with hv _ hv3
                  subst hu hv hu3 hv3
                  have hxu := (hcu j (by omega)).trans (nats_at hjR)
                  have hxv := (hcv j (by omega)).trans (nats_at hjR)
                  clear hcu hcv
                  generalize (R[j] : Nat) = xj at hxu hxv
                  go_wp2
                  go_quiet (fail)
                  go_wp2
                  go_roundw
                  case measure => simp [intOf]; omega
                  case rel => exact ⟨j + 1, by omega, by go_num, Lib.hid (HOj.out.drewN _)⟩
                · obtain rfl : j = R.length := by omega
                  have HOk := Lib.hid (HOb.out.trans HOj.out)
                  have HKP := Lib.hid (kept_ok ((HT.out.below (Below.of_only (HO2.out.trans HOk.out) (Nat.le_refl _))).here) (HTW.out.only0 HOk.out) HUS.out h40 HM.out)
                  go_wp2_with fail
                  refine HKP.out.mono ?_
                  clear HKP
                  rintro e wz ⟨rfl, hOz⟩
                  have HOZ := Lib.hid ((HO2.out.trans HOk.out).trans hOz)
                  clear hOz
                  go_wp2
                  exact bodyPost_ret (results_tmp rfl _ _ _) rfl ⟨rfl, HOZ.out⟩
            · have HR1 := Lib.hid (ready_bad room ((HTW.out.only0 HOX.out).tasks HUS.out) (HP.out.only (HO2.out.trans HOX.out)) hr0)
              go_wp2_with fail
              refine HR1.out.mono ?_
              clear HR1
              rintro e wa ⟨rfl, hOa⟩
              have HOa := Lib.hid (HOX.out.trans hOa)
              clear hOa
              have HR2 := Lib.hid (rready_bad room ((HT.out.below (Below.of_only (HO2.out.trans HOa.out) (Nat.le_refl _))).here) (HP.out.only (HO2.out.trans HOa.out)) hr0)
              generalize askedM acts room ps 0 = m0 at *
              go_wp2_with fail
              refine HR2.out.mono ?_
              clear HR2
              rintro e wb ⟨rfl, hOb⟩
              have HOb := Lib.hid (HOa.out.trans hOb)
              clear hOb
              go_wp2
              go_loopw [21] (fun z wr => z = .int .i64 0 ∧ Hid (Only [] wb wr)) (fun _ _ => 0)
              case atStart => exact ⟨rfl, Lib.hid (Only.refl _ _)⟩
              case round =>
                obtain ⟨wc, hwo⟩ : ∃ x : World, x = wr := ⟨_, rfl⟩
                subst hwo
                obtain ⟨rfl, HOj⟩ := hrel
                have HOk := Lib.hid (HOb.out.trans HOj.out)
                have HKP := Lib.hid (kept_ok ((HT.out.below (Below.of_only (HO2.out.trans HOk.out) (Nat.le_refl _))).here) (HTW.out.only0 HOk.out) HUS.out h40 HM.out)
                go_wp2_with fail
                refine HKP.out.mono ?_
                clear HKP
                rintro e wz ⟨rfl, hOz⟩
                have HOZ := Lib.hid ((HO2.out.trans HOk.out).trans hOz)
                clear hOz
                go_wp2
                exact bodyPost_ret (results_tmp rfl _ _ _) rfl ⟨rfl, HOZ.out⟩
    · have hp3z : (3000 : Int) < (ps.length : Int) := by omega
      go_enter Try.func3, Try.ntmps3
      go_wp2_with fail
      refine HB.out.mono ?_
      clear HB
      rintro e w1 ⟨rfl, hO1⟩
      have HO1 := Lib.hid hO1
      clear hO1
      go_wp2
      exact bodyPost_ret (results_tmp rfl _ _ _) rfl ⟨rfl, HO1.out⟩
  · have h40z : (40 : Int) < (acts.length : Int) := by omega
    go_enter Try.func3, Try.ntmps3
    go_wp2_with fail
    refine HB.out.mono ?_
    clear HB
    rintro e w1 ⟨rfl, hO1⟩
    have HO1 := Lib.hid hO1
    clear hO1
    go_wp2
    exact bodyPost_ret (results_tmp rfl _ _ _) rfl ⟨rfl, HO1.out⟩
end Go.Proofs.Ytompelilflckkaa
/-
  SchedAll: what the bound on the input's bulk gives: each list of acts is at most so long.
-/
namespace Go.Proofs.Ytompelilflckkaa
open Go.RowKit Go.Fl Go.ChangeShapes Go.WideShapes Go.Deep

theorem bulk_one {H : Type} (d : DataW H) : 1 ≤ Rows.uptoBulk d := by
  cases d with
  | lit l => cases l <;> simp [Rows.uptoBulk]
  | nil => simp [Rows.uptoBulk]
  | ptr d => simp [Rows.uptoBulk]
  | slice elems spare => simp [Rows.uptoBulk]
  | agg parts => simp [Rows.uptoBulk]
  | iface t d => simp [Rows.uptoBulk]
  | map entries => simp [Rows.uptoBulk]
  | held h => simp [Rows.uptoBulk]
theorem bulk_part {H : Type} {d : DataW H} : ∀ {l : List (DataW H)}, d ∈ l → Rows.uptoBulk d ≤ Rows.uptoBulkAll l
  | [], h => by cases h
  | x :: r, h => by
    simp only [Rows.uptoBulkAll]
    rcases List.mem_cons.1 h with e | e
    · subst e; omega
    · have := bulk_part e
      omega
theorem bulk_len {H : Type} : ∀ (l : List (DataW H)), l.length ≤ Rows.uptoBulkAll l
  | [] => Nat.zero_le _
  | x :: r => by
    simp only [Rows.uptoBulkAll, List.length_cons]
    have h1 := bulk_one x
    have h2 := bulk_len r
    omega
section
variable {H : Type} {enc : TypeId × Value → H} {P : Program} {w : World}
theorem acts_len {B : Nat} {t e : TypeId} {fuel : Nat} {v : Value} {l : List A} {x : DataW H × List MemPlace} (ht : P.underlying t = some (.slice e)) (h : DataW.trod enc P w 0 (fun _ => true) true fuel t [v] = some x) (ha : ActsV B w v l) : l.length ≤ Rows.uptoBulk x.1 := by
  obtain ⟨a0, c0, hv, _⟩ := ha
  rcases open_slice ht h with ⟨h0, _⟩ | ⟨a', len, cap, m, n, D, Pl, hcs, hb, hl, hm, hmm, hx, hi⟩
  · injection h0 with h0 _
    rw [hv] at h0
    injection h0 with _ h1 _
    omega
  · injection hcs with h0 _
    rw [hv] at h0
    injection h0 with _ h1 _
    rw [hx]
    show l.length ≤ Rows.uptoBulk (.slice _ _)
    have := bulk_len ((List.range len).map D)
    rw [List.length_map, List.length_range] at this
    simp only [Rows.uptoBulk]
    omega
theorem tasks_len {r : Reach} {b0 B : Nat} {t e f : TypeId} {v : Value} {d : DataW H} {ps : List MemPlace} {l : List (List A)} (ht : P.underlying t = some (.slice e)) (hk1 : P.cellsOf e = 1) (hte : P.underlying e = some (.slice f))
    (hval : Value.okWide P w r b0 t v) (h : DataW.Trod enc P w 0 (fun _ => true) true t v d ps) (hT : TasksV B w v l) : ∀ y ∈ l, y.length ≤ Rows.uptoBulk d := by
  obtain ⟨a0, len0, cap0, rfl⟩ := okWide_slice ht hval
  obtain ⟨fuel, h⟩ := h
  obtain ⟨ta, tc, hv, _, _, hcell⟩ := hT
  injection hv with e1 e2 e3
  subst e1
  subst e3
  rcases open_slice ht h with ⟨h0, _⟩ | ⟨a', len', cap', m, n, D, Pl, hcs, hb, hl, hm, hmm, hx, hi⟩
  · simp [Value.cells] at h0
    obtain ⟨_, h0, _⟩ := h0
    have hl0 : l = [] := List.length_eq_zero_iff.1 (by omega)
    subst hl0
    intro y hy
    cases hy
  · simp [Value.cells] at hcs
    obtain ⟨h1, h2, h3⟩ := hcs
    simp at hmm
    intro y hy
    obtain ⟨i, hil, rfl⟩ := List.getElem_of_mem hy
    obtain ⟨g, off, ha, _, _, hcc⟩ := hcell (by omega)
    obtain ⟨u, hu, hA⟩ := hcc i hil
    obtain ⟨cs', hc, hd⟩ := hi i (by omega)
    rw [hk1, Nat.mul_one] at hc
    have h4 := World.cells?_some hc
    obtain ⟨_, h5, hat⟩ := h4
    have h6 := hat 0 (by omega)
    rw [h1] at ha
    injection ha with ha
    subst ha
    have h7 : w.cell? ((({ block := g, off := off, spot := none } : Addr).add i).add 0) = some u := by
      rw [Addr.add_lit, Addr.add_lit]
      exact hu
    rw [h7] at h6
    have hcs1 : cs' = [u] := by
      match cs', h5, h6 with
      | [z], _, h6 => simp at h6; rw [h6]
    rw [hcs1] at hd
    have h8 := acts_len hte hd hA
    have h9 : Rows.uptoBulk (D i) ≤ Rows.uptoBulkAll ((List.range len').map D) := bulk_part (List.mem_map.2 ⟨i, List.mem_range.2 (by omega), rfl⟩)
    have hd0 : d = .slice ((List.range len').map D) ((List.range (m - len')).map fun j => D (len' + j)) := by
      injection hx
    rw [hd0]
    simp only [Rows.uptoBulk]
    have h10 : (l[i]).length ≤ Rows.uptoBulk (D i) := h8
    omega
end
theorem all_row (W : World) (tv : Value) (acts : List (List A)) (hT : TasksV W.heap.size W tv acts) (room : Int) (pv : Value) (ps : List Int) (hp : Row (fun s => .int .i64 s) W pv ps) (_hw : ∀ i (h : i < ps.length), (Lit.int .i64 ps[i]).wf = true) (hpo : ∀ g, pv.ownBlock = some g → g < W.heap.size) (most : Int)
    (hm : ∀ y ∈ acts, y.length ≤ 1048576) : Calls Try.prog 3 #[tv, .int .i64 room, pv, .int .i64 most] W fun e W' => e = .returned (.bool true) ∧ Only [] W W' := all_walk room most hT hp hpo hm
end Go.Proofs.Ytompelilflckkaa
