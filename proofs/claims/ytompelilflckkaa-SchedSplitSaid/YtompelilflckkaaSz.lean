/-
  The scheduler: may a run be asked for?
-/
import Derived.Test.YtompelilflckkaaSy
namespace Go.Proofs.Ytompelilflckkaa
open Go.RowKit Go.Fl

abbrev intv (x : Int) : Value := iv x
/-- May a run be asked for? -/
def askedM (acts : List (List A)) (room : Int) (ps : List Int) (most : Int) : Int :=
  if mayM acts ≠ 0 then mayM acts else if room < 1 ∨ 16 < room ∨ most < 0 ∨ 65536 < most ∨ 65536 < ps.length then 1 else if ps.any (fun k => decide (k < 0)) = true then 1 else 0

set_option maxRecDepth 100000 in
set_option maxHeartbeats 3200000 in
theorem asked_ok {base : Nat} {w : World} {tv pv : Value} {acts : List (List A)} {ps : List Int} (room most : Int) (h : TasksV base w tv acts) (hb : base ≤ w.heap.size) (hp : Row intv w pv ps) :
    Calls Try.prog 28 #[tv, iv room, pv, iv most] w fun e w' => e = .returned (iv (askedM acts room ps most)) ∧ Only [] w w' := by
  have HY := Lib.hid (may_ok h hb)
  have HP := Lib.hid hp
  obtain ⟨pa, pc, hpv, hpc, hpm, _⟩ := hp
  subst hpv
  have hs0 : ps.length ≤ 9223372036854775807 := by unfold maxLen at hpm; omega
  by_cases he : mayM acts = 0
  · rw [he] at HY
    by_cases h1 : room < 1
    ·
      have HM := Lib.hid (show askedM acts room ps most = 1 by unfold askedM; rw [if_neg (by simp [he]), if_pos (by omega)])
      go_enter Try.func28, Try.ntmps28
      go_wp2_with fail
      refine HY.out.mono ?_
      clear HY
      rintro e w1 ⟨rfl, hO⟩
      have HO := Lib.hid hO
      clear hO
      go_wp2
      refine bodyPost_ret (results_tmp rfl _ _ _) rfl ⟨?_, HO.out⟩
      rw [HM.out]; rfl
    have g1 : 1 ≤ room := by omega
    by_cases h2 : 16 < room
    ·
      have HM := Lib.hid (show askedM acts room ps most = 1 by unfold askedM; rw [if_neg (by simp [he]), if_pos (by omega)])
      go_enter Try.func28, Try.ntmps28
      go_wp2_with fail
      refine HY.out.mono ?_
      clear HY
      rintro e w1 ⟨rfl, hO⟩
      have HO := Lib.hid hO
      clear hO
      go_wp2
      refine bodyPost_ret (results_tmp rfl _ _ _) rfl ⟨?_, HO.out⟩
      rw [HM.out]; rfl
    have g2 : room ≤ 16 := by omega
    by_cases h3 : most < 0
    ·
      have HM := Lib.hid (show askedM acts room ps most = 1 by unfold askedM; rw [if_neg (by simp [he]), if_pos (by omega)])
      go_enter Try.func28, Try.ntmps28
      go_wp2_with fail
      refine HY.out.mono ?_
      clear HY
      rintro e w1 ⟨rfl, hO⟩
      have HO := Lib.hid hO
      clear hO
      go_wp2
      refine bodyPost_ret (results_tmp rfl _ _ _) rfl ⟨?_, HO.out⟩
      rw [HM.out]; rfl
    have g3 : 0 ≤ most := by omega
    by_cases h4 : 65536 < most
    ·
      have HM := Lib.hid (show askedM acts room ps most = 1 by unfold askedM; rw [if_neg (by simp [he]), if_pos (by omega)])
      go_enter Try.func28, Try.ntmps28
      go_wp2_with fail
      refine HY.out.mono ?_
      clear HY
      rintro e w1 ⟨rfl, hO⟩
      have HO := Lib.hid hO
      clear hO
      go_wp2
      refine bodyPost_ret (results_tmp rfl _ _ _) rfl ⟨?_, HO.out⟩
      rw [HM.out]; rfl
    have g4 : most ≤ 65536 := by omega
    by_cases h5 : 65536 < ps.length
    · have g5 : (65536 : Int) < (ps.length : Int) := by omega
      have HM := Lib.hid (show askedM acts room ps most = 1 by unfold askedM; rw [if_neg (by simp [he]), if_pos (by omega)])
      go_enter Try.func28, Try.ntmps28
      go_wp2_with fail
      refine HY.out.mono ?_
      clear HY
      rintro e w1 ⟨rfl, hO⟩
      have HO := Lib.hid hO
      clear hO
      go_wp2
      refine bodyPost_ret (results_tmp rfl _ _ _) rfl ⟨?_, HO.out⟩
      rw [HM.out]; rfl
    have g5 : (ps.length : Int) ≤ 65536 := by omega
    have HM := Lib.hid (show askedM acts room ps most = if ps.any (fun k => decide (k < 0)) = true then 1 else 0 by unfold askedM; rw [if_neg (by simp [he]), if_neg (by omega)])
    clear h1 h2 h3 h4
    go_enter Try.func28, Try.ntmps28
    go_wp2_with fail
    refine HY.out.mono ?_
    clear HY
    rintro e w1 ⟨rfl, hO⟩
    have HO := Lib.hid hO
    clear hO
    go_wp2
    go_loopw [38] (fun z wr => ∃ k : Nat, k ≤ ps.length ∧ z = .int .i64 k ∧ Hid ((ps.take k).any (fun k => decide (k < 0)) = false) ∧ Hid (Only [] w wr)) (fun z _ => ps.length - (intOf z).toNat)
    case atStart => exact ⟨0, Nat.zero_le _, rfl, Lib.hid rfl, HO⟩
    case round =>
      clear HO
      obtain ⟨k, hk, rfl, HL, HO⟩ := hrel
      by_cases hkl : k < ps.length
      · have hkz : (k : Int) < (ps.length : Int) := by omega
        obtain ⟨a', c', hv', _, _, hcell⟩ := HP.out.only HO.out
        obtain ⟨g, off, ha, hg, hcc⟩ := hcell (by omega)
        injection hv' with e1 e2 e3
        subst e1
        subst e3
        subst ha
        clear e2
        obtain ⟨x, hx⟩ : ∃ x, ps[k] = x := ⟨_, rfl⟩
        have cx : wr.cell? ⟨g, off + k, none⟩ = some (iv x) := hx ▸ hcc k hkl
        by_cases hx0 : x < 0
        · have HF := Lib.hid (show askedM acts room ps most = 1 by
            rw [HM.out, if_pos (List.any_eq_true.2 ⟨x, hx ▸ List.getElem_mem hkl, by simpa using hx0⟩)])
          clear hcell hcc hx
          go_wp2
          refine bodyPost_ret (results_tmp rfl _ _ _) rfl ⟨?_, HO.out⟩
          rw [HF.out]; rfl
        · have hx1 : 0 ≤ x := by omega
          have HF := Lib.hid (show (ps.take (k + 1)).any (fun k => decide (k < 0)) = false by rw [any_succ _ _ hkl, hx, HL.out]; simp; omega)
          clear hcell hcc hx
          go_wp2
          go_roundw
          case measure => simp [intOf]; omega
          case rel => exact ⟨k + 1, by omega, by go_num, HF, HO⟩
      · obtain rfl : k = ps.length := by omega
        have HF := Lib.hid (show askedM acts room ps most = 0 by
          have h1 := HL.out
          rw [List.take_length] at h1
          rw [HM.out, if_neg (by rw [h1]; simp)])
        go_wp2
        refine bodyPost_ret (results_tmp rfl _ _ _) rfl ⟨?_, HO.out⟩
        rw [HF.out]; rfl
  · have hz : (mayM acts == 0) = false := by simpa using he
    have HM := Lib.hid (show askedM acts room ps most = mayM acts by unfold askedM; rw [if_pos he])
    generalize mayM acts = m at *
    go_enter Try.func28, Try.ntmps28
    go_wp2_with fail
    refine HY.out.mono ?_
    clear HY
    rintro e w1 ⟨rfl, hO⟩
    have HO := Lib.hid hO
    clear hO
    go_wp2
    refine bodyPost_ret (results_tmp rfl _ _ _) rfl ⟨?_, HO.out⟩
    rw [HM.out]; rfl
end Go.Proofs.Ytompelilflckkaa
