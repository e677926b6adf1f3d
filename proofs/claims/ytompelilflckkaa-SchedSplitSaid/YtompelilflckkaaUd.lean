/-
  The scheduler's Ready.
-/
import Derived.Test.YtompelilflckkaaUb
namespace Go.Proofs.Ytompelilflckkaa
open Go.RowKit Go.Fl

set_option maxRecDepth 100000 in
set_option maxHeartbeats 3200000 in
theorem ready_bad {w : World} {tv pv : Value} {acts : List (List A)} {ps : List Int} (room : Int) (h : TasksV w.heap.size w tv acts) (hp : Row intv w pv ps) (hk : askedM acts room ps 0 ≠ 0) :
    Calls Try.prog 17 #[tv, iv room, pv] w fun e w' => e = .returned (.tuple #[.slice none 0 0, iv (askedM acts room ps 0)]) ∧ Only [] w w' := by
  have HA := Lib.hid (asked_ok (base := w.heap.size) room 0 h (Nat.le_refl _) hp)
  have hz : (askedM acts room ps 0 == 0) = false := by simpa using hk
  generalize askedM acts room ps 0 = m at *
  go_enter Try.func17, Try.ntmps17
  go_wp2_with fail
  refine HA.out.mono ?_
  clear HA
  rintro e w1 ⟨rfl, hO1⟩
  have HO := Lib.hid hO1
  clear hO1
  go_wp2
  exact bodyPost_ret (v := .tuple #[.slice none 0 0, iv m]) (results2 rfl (res_tmp rfl) (res_tmp rfl)) rfl ⟨rfl, HO.out⟩
set_option maxRecDepth 100000 in
set_option maxHeartbeats 3200000 in
theorem ready_run {w : World} {tv pv : Value} {acts : List (List A)} {ps : List Int} (room : Int) (h : TasksV w.heap.size w tv acts) (hp : Row intv w pv ps) (hpb : ∀ g, pv.ownBlock = some g → g < w.heap.size) (hk : askedM acts room ps 0 = 0) :
    Calls Try.prog 17 #[tv, iv room, pv] w fun e w' => ∃ u, e = .returned (.tuple #[u, iv 0]) ∧ Sl w' 3 1 u (ready (all (ps.map Int.toNat) ps.length (begin_ acts room))).length (nats (ready (all (ps.map Int.toNat) ps.length (begin_ acts room)))) ∧
      (∀ g, u.ownBlock = some g → w.heap.size ≤ g) ∧ Below w.heap.size w w' := by
  have HA := Lib.hid (asked_ok (base := w.heap.size) room 0 h (Nat.le_refl _) hp)
  obtain ⟨q1, q2, q3, q4, q5, q6, q7, q8, q9, q10⟩ := asked_zero hk
  rw [hk] at HA
  have HWF := Lib.hid (begin_wf q1 q2 q3 q8 q9 q10)
  have HPN := Lib.hid (row_nat hp q7)
  have HPB := Lib.hid hpb
  have HT := Lib.hid h
  obtain ⟨pa, pc, hpv, _, _, _⟩ := hp
  clear q7 q8 q9 q10 hpb h hk
  subst hpv
  go_enter Try.func17, Try.ntmps17
  go_wp2_with fail
  refine HA.out.mono ?_
  clear HA
  rintro e w1 ⟨rfl, hO1⟩
  have HO := Lib.hid hO1
  have hsz := hO1.size
  have HBG := Lib.hid (begun_run (room := room) (HT.out.below (Below.of_only hO1 (Nat.le_refl _))).here (by omega))
  clear hO1 HT
  go_wp2_with fail
  refine HBG.out.mono ?_
  clear HBG
  rintro e w2 ⟨r, f, b, rfl, hR, hB⟩
  have HPN2 := Lib.hid (Row.below' (HPN.out.only HO.out) hB (fun g hg => Nat.lt_of_lt_of_le (HPB.out g hg) hsz))
  have HAL := Lib.hid (all_ok (most := ps.length) hR HWF.out HPN2.out (fun g hg => Nat.lt_of_lt_of_le (HPB.out g hg) hsz) (by omega) (Nat.zero_le _))
  have HB2 := Lib.hid hB
  clear hR hB
  go_wp2_with fail
  refine HAL.out.mono ?_
  clear HAL
  rintro e w3 ⟨rfl, ⟨f3, hR⟩, hB⟩
  have HB3 := Lib.hid (HB2.out.trans hB)
  have hR : RS w3 w1.heap.size r f3 b (all (ps.map Int.toNat) ps.length (begin_ acts room)) := hR
  have hw3 := (all_wf (ps.map Int.toNat) ps.length _ _ HWF.out).1
  rw [Nat.zero_add] at hw3
  have HRD := Lib.hid (ready_ok hR hw3 (by omega))
  clear hR hB HB2 HPN2 hw3
  generalize hs : all (ps.map Int.toNat) ps.length (begin_ acts room) = s at HRD
  have HS := Lib.hid hs
  clear hs
  go_wp2_with fail
  refine HRD.out.mono ?_
  clear HRD
  rintro e w4 ⟨u, rfl, hS, hF, hO⟩
  have HSl := Lib.hid hS
  have HF := Lib.hid hF
  have HO4 := Lib.hid hO
  clear hS hF hO
  go_wp2
  refine bodyPost_ret (v := .tuple #[u, iv 0]) (results2 rfl (res_tmp rfl) (res_tmp rfl)) rfl ⟨u, rfl, ?_, ?_, ?_⟩
  · rw [HS.out]; exact HSl.out
  · intro g hg
    have := HF.out g hg
    have := HB3.out.size
    omega
  · have g1 : Below w.heap.size w w1 := Below.of_only HO.out (Nat.le_refl _)
    have g2 : Below w.heap.size w1 w3 := ⟨HB3.out.os, HB3.out.tape, HB3.out.output, HB3.out.size, fun i hi => HB3.out.block i (by omega)⟩
    have g3 : Below w.heap.size w3 w4 := Below.of_only HO4.out (Nat.le_trans hsz g2.size)
    exact (g1.trans g2).trans g3
end Go.Proofs.Ytompelilflckkaa
