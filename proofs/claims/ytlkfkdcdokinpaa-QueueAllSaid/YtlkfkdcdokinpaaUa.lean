/-
  The law's own items and ids: two lists that are alike are told so.
-/
import Derived.Test.YtlkfkdcdokinpaaQj
import Derived.BigQuiet
namespace Go.Proofs.Ytlkfkdcdokinpaa
open Go.RowKit Go.Fl

theorem ints_at (l : List Int) (k : Nat) (h : k < l.length) : (ints l)[k]? = some (.int .i64 l[k]) := by simp [ints, h]

set_option maxHeartbeats 800000 in
theorem items_ok {va vb : Value} {xs : List Item} (w : World) (ha : Sl w 38 2 va xs.length (cells xs)) (hb : Sl w 38 2 vb xs.length (cells xs)) (hl : xs.length ≤ 4096) :
    Calls Try.prog 15 #[va, vb] w fun e w' => e = .returned (.bool true) ∧ Only [] w w' := by
  obtain ⟨a, c, hva, _, _⟩ := ha.shape
  obtain ⟨a2, c2, hvb, _, _⟩ := hb.shape
  have HA := Lib.hid ha
  have HB := Lib.hid hb
  clear ha hb
  subst hva
  subst hvb
  go_enter Try.func15, Try.ntmps15
  go_wp2
  go_loopw [5] (fun i wr => ∃ k : Nat, k ≤ xs.length ∧ i = .int .i64 k ∧ Hid (Only [] w wr)) (fun i _ => xs.length - (intOf i).toNat)
  case atStart => exact ⟨0, Nat.zero_le _, rfl, Lib.hid (Only.refl _ _)⟩
  case round =>
    obtain ⟨k, hk, rfl, HO⟩ := hrel
    by_cases hkl : k < xs.length
    · obtain ⟨g, o, c', hv, hg, _, _, hcc, _⟩ := (HA.out.only HO.out (by simp)).form (by omega)
      injection hv with hva hvl hvc
      subst hva
      subst hvc
      clear hvl
      obtain ⟨g2, o2, c2', hv2, hg2, _, _, hcc2, _⟩ := (HB.out.only HO.out (by simp)).form (by omega)
      injection hv2 with hva2 hvl2 hvc2
      subst hva2
      subst hvc2
      clear hvl2
      have hx : xs[k]? = some xs[k] := List.getElem?_eq_getElem hkl
      have e1 := (hcc (k * 2) (by omega)).trans (cells_at xs k _ hx).1
      have e2 := (hcc (k * 2 + 1) (by omega)).trans (cells_at xs k _ hx).2
      have e3 := (hcc2 (k * 2) (by omega)).trans (cells_at xs k _ hx).1
      have e4 := (hcc2 (k * 2 + 1) (by omega)).trans (cells_at xs k _ hx).2
      rw [← Nat.add_assoc] at e2 e4
      clear hcc hcc2 hx
      go_wp2
      go_quiet (fail)
      go_wp2
      go_roundw
      case measure => simp [intOf]; omega
      case rel => exact ⟨k + 1, by omega, by congr 1, Lib.hid (HO.out.trans (by (repeat (first | with_reducible exact Only.refl _ _ | with_reducible exact Only.refl [] wr | with_reducible refine Only.drew ?_ | with_reducible refine Only.drewN ?_ _ | with_reducible refine Only.alloc ?_ _ | ((with_reducible refine Only.setCell ?_ ?_ _); rotate_left; (focus (first | (left; simp; done) | (right; simp; done) | (right; simp; omega) | (right; omega))))))))⟩
    · obtain rfl : k = xs.length := by omega
      go_wp2
      go_ret
      exact ⟨rfl, HO.out⟩

set_option maxHeartbeats 800000 in
theorem ids_ok {va vb : Value} {xs : List Int} (w : World) (ha : Sl w 2 1 va xs.length (ints xs)) (hb : Sl w 2 1 vb xs.length (ints xs)) (hl : xs.length ≤ 4096) :
    Calls Try.prog 16 #[va, vb] w fun e w' => e = .returned (.bool true) ∧ Only [] w w' := by
  obtain ⟨a, c, hva, _, _⟩ := ha.shape
  obtain ⟨a2, c2, hvb, _, _⟩ := hb.shape
  have HA := Lib.hid ha
  have HB := Lib.hid hb
  clear ha hb
  subst hva
  subst hvb
  go_enter Try.func16, Try.ntmps16
  go_wp2
  go_loopw [5] (fun i wr => ∃ k : Nat, k ≤ xs.length ∧ i = .int .i64 k ∧ Hid (Only [] w wr)) (fun i _ => xs.length - (intOf i).toNat)
  case atStart => exact ⟨0, Nat.zero_le _, rfl, Lib.hid (Only.refl _ _)⟩
  case round =>
    obtain ⟨k, hk, rfl, HO⟩ := hrel
    by_cases hkl : k < xs.length
    · obtain ⟨g, o, c', hv, hg, _, _, hcc, _⟩ := (HA.out.only HO.out (by simp)).form (by omega)
      injection hv with hva hvl hvc
      subst hva
      subst hvc
      clear hvl
      obtain ⟨g2, o2, c2', hv2, hg2, _, _, hcc2, _⟩ := (HB.out.only HO.out (by simp)).form (by omega)
      injection hv2 with hva2 hvl2 hvc2
      subst hva2
      subst hvc2
      clear hvl2
      have e1 := (hcc k (by omega)).trans (ints_at xs k hkl)
      have e3 := (hcc2 k (by omega)).trans (ints_at xs k hkl)
      clear hcc hcc2
      go_wp2
      refine Lex.wp_region_text (by kernel_rfl) (by kernel_rfl) ?_
      go_wp2
      refine Lex.sq_done (by rfl) ?_
      go_wp2
      go_roundw
      case measure => simp [intOf]; omega
      case rel => exact ⟨k + 1, by omega, by congr 1, Lib.hid (HO.out.trans (by (repeat (first | with_reducible exact Only.refl _ _ | with_reducible exact Only.refl [] wr | with_reducible refine Only.drew ?_ | with_reducible refine Only.drewN ?_ _ | with_reducible refine Only.alloc ?_ _ | ((with_reducible refine Only.setCell ?_ ?_ _); rotate_left; (focus (first | (left; simp; done) | (right; simp; done) | (right; simp; omega) | (right; omega))))))))⟩
    · obtain rfl : k = xs.length := by omega
      go_wp2
      go_ret
      exact ⟨rfl, HO.out⟩
end Go.Proofs.Ytlkfkdcdokinpaa
