/-
  Are two runs the same? The law's ints and Eq, of one run told twice.
-/
import Derived.Test.YtompelilflckkaaWg
namespace Go.Proofs.Ytompelilflckkaa
open Go.RowKit Go.Fl

theorem row_sl {α : Type} {f : α → Value} {w : World} {v : Value} {e n : Nat} {l : List α} (h : Sl w e 1 v n (l.map f)) (hn : n = l.length) : Row f w v l := by
  subst hn
  by_cases h0 : 0 < l.length
  · obtain ⟨g, off, cap, rfl, hg, hc, hm, hcell, _⟩ := h.form h0
    refine ⟨_, _, rfl, hc, hm, fun _ => ⟨g, off, rfl, hg, fun i hi => ?_⟩⟩
    rw [hcell i (by omega), List.getElem?_map, List.getElem?_eq_getElem hi]; rfl
  · obtain ⟨a, cap, rfl, hc, _⟩ := h.shape
    rcases h.2 with ⟨e, _⟩ | ⟨g, off, cap', cur, e, _, _, hm, _⟩
    · injection e with e1 e2 e3
      subst e1; subst e3
      exact ⟨_, _, rfl, hc, by decide, fun h => absurd h h0⟩
    · injection e with e1 e2 e3
      subst e3
      exact ⟨_, _, rfl, hc, hm, fun h => absurd h h0⟩
set_option maxRecDepth 100000 in
set_option maxHeartbeats 3200000 in
theorem ints_ok {w : World} {u v : Value} {l : List Int} (h1 : Row intv w u l) (h2 : Row intv w v l) : Calls Try.prog 32 #[u, v] w fun e w' => e = .returned (.bool true) ∧ Only [] w w' := by
  obtain ⟨a, cap, rfl, _, hmax, hc1⟩ := h1
  obtain ⟨b, cap2, rfl, _, _, hc2⟩ := h2
  have HC1 := Lib.hid hc1
  have HC2 := Lib.hid hc2
  clear hc1 hc2
  have hlm : l.length ≤ maxLen := by omega
  go_enter Try.func32, Try.ntmps32
  go_wp2
  go_loopw [5] (fun z wr => ∃ k : Nat, k ≤ l.length ∧ z = .int .i64 k ∧ Hid (Only [] w wr)) (fun z _ => l.length - (intOf z).toNat)
  case atStart => exact ⟨0, Nat.zero_le _, rfl, Lib.hid (Only.refl _ _)⟩
  case round =>
    obtain ⟨k, hk, rfl, HO⟩ := hrel
    by_cases hkl : k < l.length
    · have hkz : (k : Int) < (l.length : Int) := by omega
      obtain ⟨g, on, rfl, hg, hg1⟩ := HC1.out (by omega)
      obtain ⟨g2, on2, rfl, hg2, hg3⟩ := HC2.out (by omega)
      have x1 : wr.cell? ⟨g, on + k, none⟩ = some (iv l[k]) := (HO.out.cell (p := ⟨g, on + k, none⟩) hg (by simp)).trans (hg1 k hkl)
      have x2 : wr.cell? ⟨g2, on2 + k, none⟩ = some (iv l[k]) := (HO.out.cell (p := ⟨g2, on2 + k, none⟩) hg2 (by simp)).trans (hg3 k hkl)
      clear hg1 hg3 HC1 HC2
      have hwr : (k : Int) + 1 ≤ 9223372036854775807 := by unfold maxLen at hlm; omega
      go_wp2
      go_quiet (fail)
      go_wp2
      go_roundw
      case measure => simp [intOf]; omega
      case rel => exact ⟨k + 1, by omega, by go_num, Lib.hid (HO.out.drewN _)⟩
    · obtain rfl : k = l.length := by omega
      clear HC1 HC2
      go_wp2
      exact bodyPost_ret (results_tmp rfl _ _ _) rfl ⟨rfl, HO.out⟩
end Go.Proofs.Ytompelilflckkaa
