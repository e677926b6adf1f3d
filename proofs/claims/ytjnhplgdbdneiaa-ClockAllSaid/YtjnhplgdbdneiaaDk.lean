/-
  Clock: Jump; where there is no clock.
-/
import Derived.Test.YtjnhplgdbdneiaaDj
set_option linter.unusedSimpArgs false
set_option linter.unusedVariables false
namespace Go.Proofs.Ytjnhplgdbdneiaa
open Go.RowKit Go.Fl

set_option maxRecDepth 100000 in
theorem go_no (w : World) {c : Value} (h : NoC w c) (d : Nat) : Calls Try.prog 12 #[c, fv d] w fun e w' => e = .returned (.tuple #[.slice none 0 0, iv 1]) ∧ w' = w := by
  have HP := Lib.hid (plain27 w d)
  have HT := Lib.hid (there_no h)
  clear h
  go_enter Try.func12, Try.ntmps12
  go_wp2_with fail
  refine HP.out.mono ?_
  rintro e w1 ⟨rfl, rfl⟩
  go_wp2_with fail
  refine HT.out.mono ?_
  rintro e w1 ⟨rfl, rfl⟩
  go_wp2
  exact bodyPost_ret (results2 rfl (res_tmp rfl) (res_tmp rfl)) rfl ⟨rfl, rfl⟩
set_option maxRecDepth 100000 in
theorem jump_no (w : World) {c : Value} (h : NoC w c) : Calls Try.prog 22 #[c] w fun e w' => e = .returned (.slice none 0 0) ∧ w' = w := by
  have HT := Lib.hid (next_no w h)
  clear h
  go_enter Try.func22, Try.ntmps22
  go_wp2_with fail
  refine HT.out.mono ?_
  rintro e w1 ⟨rfl, rfl⟩
  go_wp2
  exact bodyPost_ret (results_tmp rfl _ _ _) rfl ⟨rfl, rfl⟩
set_option maxRecDepth 100000 in
theorem timers_no (w : World) {c : Value} (h : NoC w c) : Calls Try.prog 15 #[c] w fun e w' => e = .returned (.slice none 0 0) ∧ w' = w := by
  have HT := Lib.hid (there_no h)
  clear h
  go_enter Try.func15, Try.ntmps15
  go_wp2_with fail
  refine HT.out.mono ?_
  rintro e w1 ⟨rfl, rfl⟩
  go_wp2
  exact bodyPost_ret (results_tmp rfl _ _ _) rfl ⟨rfl, rfl⟩
theorem NoC.only0 {w w' : World} {c : Value} (h : NoC w c) (ho : Only [] w w') : NoC w' c := by
  rcases h with rfl | ⟨r, rfl, x⟩
  · exact .inl rfl
  · refine .inr ⟨r, rfl, (ho.cell (p := ⟨r, 0, none⟩) ?_ (by simp)).trans x⟩
    rcases Nat.lt_or_ge r w.heap.size with hlt | hge
    · exact hlt
    · exfalso
      have : w.heap[r]? = none := Array.getElem?_eq_none hge
      unfold World.cell? at x
      simp [this] at x
set_option maxRecDepth 100000 in
theorem cancel_no (w : World) {c : Value} (h : NoC w c) (i : Int) : Calls Try.prog 19 #[c, iv i] w fun e w' => e = .returned (iv 1) ∧ Only [] w w' := by
  have HO := Lib.hid (show Only [] w (w.alloc (.cells #[iv i] 3)) from (Only.refl _ _).alloc _)
  have HT := Lib.hid (there_no (h.only0 HO.out))
  clear h
  go_enter Try.func19, Try.ntmps19
  go_wp2_with fail
  refine HT.out.mono ?_
  rintro e w1 ⟨rfl, rfl⟩
  go_wp2
  exact bodyPost_ret (results_tmp rfl _ _ _) rfl ⟨rfl, HO.out⟩
/-- What Jump answers, and leaves. -/
def JumpPost (w : World) (r now : Nat) (last : Int) (l L : List Tm) (s : Value) (e : Ending) (w' : World) : Prop :=
  if nextB l = true then ∃ A B m s' z, e = .returned z ∧ GR w w' r (nextV l) last L s A B m s' z ∧ ∀ x ∈ B.head?, nextV l < x.2
  else e = .returned (.slice none 0 0) ∧ w' = w
set_option maxRecDepth 100000 in
set_option maxHeartbeats 1600000 in
theorem jump22 (w : World) {r now : Nat} {last : Int} {l L : List Tm} {s : Value} (h : CK w r now last l s) (hr : Rel l L) (hn : now < 9218868437227405312) (hge : ∀ x ∈ l, now ≤ x.2) (hlen : l.length ≤ 1048576) :
    Calls Try.prog 22 #[cp r] w (JumpPost w r now last l L s) := by
  have HT := Lib.hid (next25 w h)
  have hv : nextV l ≤ 9218868437227405312 := by
    unfold nextV
    split
    · omega
    · rename_i hh
      have hl : 0 < l.length := List.length_pos_iff.2 fun e => hh (.inl e)
      exact h.le _ (by rw [List.getD_eq_getElem?_getD, List.getElem?_eq_getElem hl]; exact List.getElem_mem hl)
  cases hb : nextB l
  · have HB := Lib.hid hb
    rw [hb] at HT
    clear h hr hn hge hlen hb
    go_enter Try.func22, Try.ntmps22
    go_wp2_with fail
    refine HT.out.mono ?_
    rintro e w1 ⟨rfl, rfl⟩
    go_wp2
    exact bodyPost_ret (results_tmp rfl _ _ _) rfl (by unfold JumpPost; rw [HB.out, if_neg (by simp)]; exact ⟨rfl, rfl⟩)
  · have HB := Lib.hid hb
    rw [hb] at HT
    have hp : plB (nextV l) = true ∧ now ≤ plV (nextV l) ∧ plV (nextV l) ≠ 9218868437227405312 ∧ plV (nextV l) = nextV l := by
      have h1 := of_decide_eq_true hb
      have hl : 0 < l.length := List.length_pos_iff.2 fun e => h1 (.inl e)
      have hx := hge (l.getD 0 (0, 0)) (by rw [List.getD_eq_getElem?_getD, List.getElem?_eq_getElem hl]; exact List.getElem_mem hl)
      have hne : (l.getD 0 (0, 0)).2 ≠ 9218868437227405312 := fun e => h1 (.inr e)
      have hnv : nextV l = (l.getD 0 (0, 0)).2 := by unfold nextV; rw [if_neg h1]
      rw [← hnv] at hx hne
      have h2 : plB (nextV l) = true := by
        unfold plB
        exact decide_eq_true ⟨(rk_le hv).2, by rw [(rk_le hv).1]; omega⟩
      have h3 := (plB_le (x := nextV l) (by omega) h2).2
      rw [Nat.mod_eq_of_lt (by omega)] at h3
      exact ⟨h2, by omega, by omega, h3⟩
    have HPP := Lib.hid hp
    have HQ := Lib.hid (go12 w h hr hn (show nextV l < 18446744073709551616 by omega) hlen)
    clear h hr hn hge hlen hb hp hv
    go_enter Try.func22, Try.ntmps22
    go_wp2_with fail
    refine HT.out.mono ?_
    rintro e w1 ⟨rfl, rfl⟩
    go_wp2_with fail
    refine HQ.out.mono ?_
    intro e w2 hp
    unfold GoPost at hp
    rw [if_pos ⟨HPP.out.1, HPP.out.2.1, HPP.out.2.2.1⟩, HPP.out.2.2.2] at hp
    obtain ⟨A, B, m, s', z, rfl, hg, hh⟩ := hp
    have HG := Lib.hid (And.intro hg hh)
    clear hg hh
    go_wp2
    exact bodyPost_ret (results_tmp rfl _ _ _) rfl (by unfold JumpPost; rw [HB.out, if_pos rfl]; exact ⟨A, B, m, s', z, rfl, HG.out.1, HG.out.2⟩)
end Go.Proofs.Ytjnhplgdbdneiaa
