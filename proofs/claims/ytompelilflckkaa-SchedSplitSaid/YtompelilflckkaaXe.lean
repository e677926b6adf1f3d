/-
  Are two runs the same? The walk of the law's Eq, of one run told twice.
-/
import Derived.Test.YtompelilflckkaaXd
namespace Go.Proofs.Ytompelilflckkaa
open Go.RowKit Go.Fl

set_option maxRecDepth 100000 in
set_option maxHeartbeats 12800000 in
theorem eq_ok {w : World} {s : S} {tr rg en qs tr2 rg2 en2 qs2 : Value} (h1 : RD w s tr rg en qs) (h2 : RD w s tr2 rg2 en2 qs2) : Calls Try.prog 16 #[.agg #[iv s.trace.length, tr, rg, en, qs], .agg #[iv s.trace.length, tr2, rg2, en2, qs2]] w fun e w' => e = .returned (.bool true) ∧ Only [] w w' := by
  have H1 := Lib.hid h1
  have H2 := Lib.hid h2
  obtain ⟨a1, c1, rfl, hm, _⟩ := h1.tr
  obtain ⟨a2, c2, rfl, _, _⟩ := h2.tr
  obtain ⟨ra1, rc1, rfl, _, _⟩ := h1.rg
  obtain ⟨ra2, rc2, rfl, _, _⟩ := h2.rg
  obtain ⟨e1, k1, rfl, hnm, _⟩ := h1.en
  obtain ⟨e2, k2, rfl, _, _⟩ := h2.en
  obtain ⟨q1, p1, l1, rfl, _, _⟩ := h1.qs
  obtain ⟨q2, p2, l2, rfl, _, _⟩ := h2.qs
  clear h1 h2
  have HI := Lib.hid (show ∀ w', Only [] w w' → Calls Try.prog 32 #[.slice ra1 ((List.range 8).map s.regs).length rc1, .slice ra2 ((List.range 8).map s.regs).length rc2] w' fun e w2 => e = .returned (.bool true) ∧ Only [] w' w2 from fun w' ho => ints_ok (H1.out.rg.only ho) (H2.out.rg.only ho))
  have hl8 : ((List.range 8).map s.regs).length = 8 := by simp
  rw [hl8] at HI ⊢
  have hO1 : Only [] w ((w.alloc (.cells #[iv s.trace.length, .slice a1 s.trace.length c1, .slice ra1 8 rc1, .slice e1 s.n k1, .slice (some ⟨q1, p1, none⟩) 4 l1] 33)).alloc (.cells #[iv s.trace.length, .slice a2 s.trace.length c2, .slice ra2 8 rc2, .slice e2 s.n k2, .slice (some ⟨q2, p2, none⟩) 4 l2] 33)) := ((Only.refl [] w).alloc _).alloc _
  have hb1 : Blk ((w.alloc (.cells #[iv s.trace.length, .slice a1 s.trace.length c1, .slice ra1 8 rc1, .slice e1 s.n k1, .slice (some ⟨q1, p1, none⟩) 4 l1] 33)).alloc (.cells #[iv s.trace.length, .slice a2 s.trace.length c2, .slice ra2 8 rc2, .slice e2 s.n k2, .slice (some ⟨q2, p2, none⟩) 4 l2] 33)) w.heap.size 33 #[iv s.trace.length, .slice a1 s.trace.length c1, .slice ra1 8 rc1, .slice e1 s.n k1, .slice (some ⟨q1, p1, none⟩) 4 l1] := (Blk.new _ _ _).alloc _
  have hb2 : Blk ((w.alloc (.cells #[iv s.trace.length, .slice a1 s.trace.length c1, .slice ra1 8 rc1, .slice e1 s.n k1, .slice (some ⟨q1, p1, none⟩) 4 l1] 33)).alloc (.cells #[iv s.trace.length, .slice a2 s.trace.length c2, .slice ra2 8 rc2, .slice e2 s.n k2, .slice (some ⟨q2, p2, none⟩) 4 l2] 33)) (w.heap.size + 1) 33 #[iv s.trace.length, .slice a2 s.trace.length c2, .slice ra2 8 rc2, .slice e2 s.n k2, .slice (some ⟨q2, p2, none⟩) 4 l2] := by
    have := Blk.new (w.alloc (.cells #[iv s.trace.length, .slice a1 s.trace.length c1, .slice ra1 8 rc1, .slice e1 s.n k1, .slice (some ⟨q1, p1, none⟩) 4 l1] 33)) 33 #[iv s.trace.length, .slice a2 s.trace.length c2, .slice ra2 8 rc2, .slice e2 s.n k2, .slice (some ⟨q2, p2, none⟩) 4 l2]
    simpa using this
  have HB1 := Lib.hid hb1
  have HB2 := Lib.hid hb2
  have HO1 := Lib.hid hO1
  have HIW := Lib.hid (HI.out _ hO1)
  clear hb1 hb2 hO1 hl8
  go_enter Try.func16, Try.ntmps16
  go_wp2_with fail
  refine HIW.out.mono ?_
  clear HIW
  rintro e w1 ⟨rfl, hO2⟩
  have HO := Lib.hid (HO1.out.trans hO2)
  have HC1 := Lib.hid (HB1.out.only hO2 (by simp))
  have HC2 := Lib.hid (HB2.out.only hO2 (by simp))
  clear HB1 HB2 HO1 hO2
  go_wp2
  go_loopw [5] (fun z wr => ∃ k : Nat, k ≤ s.trace.length ∧ z = .int .i64 k ∧ Hid (Only [] w1 wr)) (fun z _ => s.trace.length - (intOf z).toNat)
  case atStart => exact ⟨0, Nat.zero_le _, rfl, Lib.hid (Only.refl _ _)⟩
  case round =>
    obtain ⟨w2, hwo⟩ : ∃ x : World, x = wr := ⟨_, rfl⟩
    subst hwo
    obtain ⟨k, hk, rfl, HO2⟩ := hrel
    obtain ⟨m1, _, l1'⟩ := (HC1.out.only HO2.out (by simp)).facts
    obtain ⟨m2, _, l2'⟩ := (HC2.out.only HO2.out (by simp)).facts
    by_cases hkl : k < s.trace.length
    · have hkz : (k : Int) < (s.trace.length : Int) := by omega
      obtain ⟨a, c, ha, _, ht1⟩ := H1.out.tr
      obtain ⟨g1, o1, hg, hgl1, hx1⟩ := ht1 (by omega)
      injection ha with ha _ hac
      subst ha
      subst hac
      subst hg
      obtain ⟨a, c, ha, _, ht2⟩ := H2.out.tr
      obtain ⟨g2, o2, hg, hgl2, hx2⟩ := ht2 (by omega)
      injection ha with ha _ hac
      subst ha
      subst hac
      subst hg
      have x1 : w2.cell? ⟨g1, o1 + k * 2, none⟩ = some (iv (s.trace[k].1 : Int)) := ((HO.out.trans HO2.out).cell (p := ⟨g1, o1 + k * 2, none⟩) hgl1 (by simp)).trans (hx1 k hkl).1
      have x2 : w2.cell? ⟨g1, o1 + k * 2 + 1, none⟩ = some (iv (s.trace[k].2 : Int)) := ((HO.out.trans HO2.out).cell (p := ⟨g1, o1 + k * 2 + 1, none⟩) hgl1 (by simp)).trans (hx1 k hkl).2
      have y1 : w2.cell? ⟨g2, o2 + k * 2, none⟩ = some (iv (s.trace[k].1 : Int)) := ((HO.out.trans HO2.out).cell (p := ⟨g2, o2 + k * 2, none⟩) hgl2 (by simp)).trans (hx2 k hkl).1
      have y2 : w2.cell? ⟨g2, o2 + k * 2 + 1, none⟩ = some (iv (s.trace[k].2 : Int)) := ((HO.out.trans HO2.out).cell (p := ⟨g2, o2 + k * 2 + 1, none⟩) hgl2 (by simp)).trans (hx2 k hkl).2
      have hmk : (k : Int) + 1 ≤ 9223372036854775807 := by unfold maxLen at hm; omega
      clear hx1 hx2 ht1 ht2 H1 H2 HC1 HC2 HI
      generalize (s.trace[k].1 : Int) = u1 at x1 y1
      generalize (s.trace[k].2 : Int) = u2 at x2 y2
      go_wp2
      go_quiet (fail)
      go_wp2
      go_roundw
      case measure => simp [intOf]; omega
      case rel => exact ⟨k + 1, by omega, by go_num, Lib.hid (HO2.out.drewN _)⟩
    · obtain rfl : k = s.trace.length := by omega
      go_wp2
      go_loopw [6] (fun z wr => ∃ k : Nat, k ≤ s.n ∧ z = .int .i64 k ∧ Hid (Only [] w2 wr)) (fun z _ => s.n - (intOf z).toNat)
      case atStart => exact ⟨0, Nat.zero_le _, rfl, Lib.hid (Only.refl _ _)⟩
      case round =>
        obtain ⟨w3, hwo⟩ : ∃ x : World, x = wr := ⟨_, rfl⟩
        subst hwo
        obtain ⟨k, hk, rfl, HO3⟩ := hrel
        clear m1 m2 l1' l2'
        have HO4 := Lib.hid (HO2.out.trans HO3.out)
        obtain ⟨m1, _, l1'⟩ := (HC1.out.only HO4.out (by simp)).facts
        obtain ⟨m2, _, l2'⟩ := (HC2.out.only HO4.out (by simp)).facts
        by_cases hkl : k < s.n
        · have hkz : (k : Int) < (s.n : Int) := by omega
          obtain ⟨a, c, ha, _, ht1⟩ := H1.out.en
          obtain ⟨g1, o1, hg, hgl1, hx1⟩ := ht1 (by omega)
          injection ha with ha _ hac
          subst ha
          subst hac
          subst hg
          obtain ⟨a, c, ha, _, ht2⟩ := H2.out.en
          obtain ⟨g2, o2, hg, hgl2, hx2⟩ := ht2 (by omega)
          injection ha with ha _ hac
          subst ha
          subst hac
          subst hg
          have x1 : w3.cell? ⟨g1, o1 + k * 2, none⟩ = some (iv (how s (s.ts k))) := ((HO.out.trans HO4.out).cell (p := ⟨g1, o1 + k * 2, none⟩) hgl1 (by simp)).trans (hx1 k hkl).1
          have x2 : w3.cell? ⟨g1, o1 + k * 2 + 1, none⟩ = some (iv (s.ts k).num) := ((HO.out.trans HO4.out).cell (p := ⟨g1, o1 + k * 2 + 1, none⟩) hgl1 (by simp)).trans (hx1 k hkl).2
          have y1 : w3.cell? ⟨g2, o2 + k * 2, none⟩ = some (iv (how s (s.ts k))) := ((HO.out.trans HO4.out).cell (p := ⟨g2, o2 + k * 2, none⟩) hgl2 (by simp)).trans (hx2 k hkl).1
          have y2 : w3.cell? ⟨g2, o2 + k * 2 + 1, none⟩ = some (iv (s.ts k).num) := ((HO.out.trans HO4.out).cell (p := ⟨g2, o2 + k * 2 + 1, none⟩) hgl2 (by simp)).trans (hx2 k hkl).2
          have hmk : (k : Int) + 1 ≤ 9223372036854775807 := by unfold maxLen at hnm; omega
          clear hx1 hx2 ht1 ht2 H1 H2 HC1 HC2 HI
          generalize how s (s.ts k) = v1 at x1 y1
          generalize (s.ts k).num = v2 at x2 y2
          go_wp2
          go_quiet (fail)
          go_wp2
          go_roundw
          case measure => simp [intOf]; omega
          case rel => exact ⟨k + 1, by omega, by go_num, Lib.hid (HO3.out.drewN _)⟩
        · obtain rfl : k = s.n := by omega
          go_wp2
          go_loopw [7] (fun z wr => ∃ k : Nat, k ≤ 4 ∧ z = .int .i64 k ∧ Hid (Only [] w3 wr)) (fun z _ => 4 - (intOf z).toNat)
          case atStart => exact ⟨0, Nat.zero_le _, rfl, Lib.hid (Only.refl _ _)⟩
          case round =>
            obtain ⟨w4, hwo⟩ : ∃ x : World, x = wr := ⟨_, rfl⟩
            subst hwo
            obtain ⟨k, hk, rfl, HO5⟩ := hrel
            clear m1 m2 l1' l2'
            have HO6 := Lib.hid (HO4.out.trans HO5.out)
            have HO7 := Lib.hid (HO.out.trans HO6.out)
            obtain ⟨m1, _, l1'⟩ := (HC1.out.only HO6.out (by simp)).facts
            obtain ⟨m2, _, l2'⟩ := (HC2.out.only HO6.out (by simp)).facts
            by_cases hkl : k < 4
            · have hkz : (k : Int) < 4 := by omega
              obtain ⟨g1, o1, c, ha, hgl1, hx1⟩ := H1.out.qs
              injection ha with ha _ hac
              injection ha with ha
              injection ha with ha1 ha2 _
              subst ha1
              subst ha2
              subst hac
              obtain ⟨g2, o2, c, ha, hgl2, hx2⟩ := H2.out.qs
              injection ha with ha _ hac
              injection ha with ha
              injection ha with ha1 ha2 _
              subst ha1
              subst ha2
              subst hac
              obtain ⟨v1, hv1, hr1⟩ := hx1 k hkl
              obtain ⟨v2, hv2, hr2⟩ := hx2 k hkl
              have x1 := (HO7.out.cell (p := ⟨q1, p1 + k, none⟩) hgl1 (by simp)).trans hv1
              have x2 := (HO7.out.cell (p := ⟨q2, p2 + k, none⟩) hgl2 (by simp)).trans hv2
              have HN := Lib.hid (show ∀ w', Only [] w4 w' → Calls Try.prog 32 #[v1, v2] w' fun e w2 => e = .returned (.bool true) ∧ Only [] w' w2 from fun w' ho => ints_ok (hr1.only (HO7.out.trans ho)) (hr2.only (HO7.out.trans ho)))
              clear hx1 hx2 hv1 hv2 hr1 hr2 H1 H2 HC1 HC2 HI
              go_wp2
              refine Lex.wp_region_text (by kernel_rfl) (by kernel_rfl) ?_
              go_wp2_with fail
              refine (HN.out _ ((Only.refl _ _).drew)).mono ?_
              clear HN
              rintro e w5 ⟨rfl, hO8⟩
              have HO8 := Lib.hid ((Only.refl [] w4).drew.trans hO8)
              clear hO8
              go_wp2
              refine Lex.sq_done (by rfl) ?_
              go_wp2
              go_roundw
              case measure => simp [intOf]; omega
              case rel => exact ⟨k + 1, by omega, by go_num, Lib.hid (HO5.out.trans HO8.out)⟩
            · obtain rfl : k = 4 := by omega
              go_wp2
              exact bodyPost_ret (results_tmp rfl _ _ _) rfl ⟨rfl, HO7.out⟩
end Go.Proofs.Ytompelilflckkaa
