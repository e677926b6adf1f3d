/-
  SchedQueues: its walk.
-/
import Derived.Test.YtompelilflckkaaWg
namespace Go.Proofs.Ytompelilflckkaa
open Go.RowKit Go.Fl

set_option maxRecDepth 100000 in
set_option maxHeartbeats 12800000 in
theorem queues_ok {w : World} {v : Value} {ps : List Int} (n room : Int) (h : Row intv w v ps) (hv : ∀ g, v.ownBlock = some g → g < w.heap.size) : Calls Try.prog 6 #[iv n, iv room, v] w fun e w' => e = .returned (.bool true) ∧ Only [] w w' := by
  obtain ⟨j47, si, sz0, sz1, sz2⟩ := info_parts info47
  have H := Lib.hid h
  have HV := Lib.hid hv
  clear hv
  obtain ⟨a, cap, rfl, hcap, hmax, hcell⟩ := h
  have HBG := Lib.hid (begun_ok w)
  go_enter Try.func6, Try.ntmps6
  go_wp2_with fail
  refine HBG.out.mono ?_
  clear HBG
  rintro e w1 ⟨rfl, hO1⟩
  have HO1 := Lib.hid hO1
  clear hO1
  have HC := Lib.hid hcell
  clear hcell
  by_cases h1 : n < 1
  · go_wp2
    exact bodyPost_ret (results_tmp rfl _ _ _) rfl ⟨rfl, HO1.out⟩
  by_cases h2 : 100 < n
  · go_wp2
    exact bodyPost_ret (results_tmp rfl _ _ _) rfl ⟨rfl, HO1.out⟩
  by_cases h3 : room < 1
  · go_wp2
    exact bodyPost_ret (results_tmp rfl _ _ _) rfl ⟨rfl, HO1.out⟩
  by_cases h4 : 16 < room
  · go_wp2
    exact bodyPost_ret (results_tmp rfl _ _ _) rfl ⟨rfl, HO1.out⟩
  by_cases h5 : 3000 < ps.length
  · have h5z : (3000 : Int) < (ps.length : Int) := by omega
    go_wp2
    exact bodyPost_ret (results_tmp rfl _ _ _) rfl ⟨rfl, HO1.out⟩
  have h5z : ¬ (3000 : Int) < (ps.length : Int) := by omega
  obtain ⟨n, rfl⟩ := nat_of (a := n) (by omega)
  obtain ⟨room, rfl⟩ := nat_of (a := room) (by omega)
  go_wp2
  go_loopw [7] (fun z wr => ∃ k : Nat, k ≤ ps.length ∧ z = .int .i64 k ∧ Hid (∀ j (h : j < ps.length), j < k → 0 ≤ ps[j]) ∧ wr = w1) (fun z _ => ps.length - (intOf z).toNat)
  case atStart => exact ⟨0, Nat.zero_le _, rfl, Lib.hid (fun j _ h => absurd h (Nat.not_lt_zero _)), rfl⟩
  case round =>
    obtain ⟨k, hk, rfl, HP, rfl⟩ := hrel
    by_cases hkl : k < ps.length
    · have hkz : (k : Int) < (ps.length : Int) := by omega
      obtain ⟨gn, on, rfl, hgn, hcn⟩ := HC.out (by omega)
      have hx : wr.cell? ⟨gn, on + k, none⟩ = some (iv ps[k]) := (HO1.out.cell (p := ⟨gn, on + k, none⟩) hgn (by simp)).trans (hcn k hkl)
      clear hcn HC
      by_cases hneg : ps[k] < 0
      · go_wp2
        exact bodyPost_ret (results_tmp rfl _ _ _) rfl ⟨rfl, HO1.out⟩
      · go_wp2
        go_roundw
        case measure => simp [intOf]; omega
        case rel => exact ⟨k + 1, by omega, by go_num, Lib.hid (fun j hj hlt => by
            by_cases e : j < k
            · exact HP.out j hj e
            · obtain rfl : j = k := by omega
              omega), by first | rfl | trivial⟩
    · obtain rfl : k = ps.length := by omega
      have HPN := Lib.hid (show ∀ k ∈ ps, 0 ≤ k from fun x hx => by
        obtain ⟨j, hj, rfl⟩ := List.getElem_of_mem hx
        exact HP.out j hj hj)
      clear HP HC
      go_wp2
      go_loopw [8, 9, 10] (fun u z i wr2 => ∃ k : Nat, k ≤ n ∧ i = .int .i64 k ∧ Hid (Sl wr2 47 4 u k (flatA (qPut k))) ∧ Hid (Sl wr2 47 4 z k (flatA (qTake k))) ∧ Hid (∀ g, u.ownBlock = some g → w.heap.size ≤ g) ∧ Hid (∀ g, z.ownBlock = some g → w.heap.size ≤ g) ∧ Hid (∀ g, u.ownBlock = some g → z.ownBlock ≠ some g) ∧ Hid (Only [] w wr2)) (fun _ _ i _ => n - (intOf i).toNat)
      case atStart => exact ⟨0, Nat.zero_le _, rfl, Lib.hid (Sl.nil _ _ _), Lib.hid (Sl.nil _ _ _), Lib.hid (fun g hg => by cases hg), Lib.hid (fun g hg => by cases hg), Lib.hid (fun g hg => by cases hg), HO1⟩
      case round =>
        obtain ⟨wr2, hwo⟩ : ∃ x : World, x = wr := ⟨_, rfl⟩
        subst hwo
        obtain ⟨k, hk, rfl, HS, HZ, HF, HG, HD, HO⟩ := hrel
        clear HO1
        obtain ⟨ua, uc, hu, _, _⟩ := HS.out.shape
        obtain ⟨za, zc, hz, _, _⟩ := HZ.out.shape
        subst hu
        subst hz
        by_cases hkl : k < n
        · have hkz : (k : Int) < (n : Int) := by omega
          go_wp2_with (at_builtin; refine wpList_append_one (news := [iv 6, iv 0, iv 0, iv k]) rfl (.tmp 52) (.tmp 55) 45 rfl 47 j47 _ 4 32 Try.underlying45 si sz0 sz1 sz2 rfl (by decide) rfl (HS.out.alloc _) rfl (Blk.new _ _ _) rfl (by simp [Value.oneCell']) (by unfold maxLen; omega) (by omega) ?_)
          intro v2 w2 hS2 hg2 hat2
          have HS2 := Lib.hid hS2
          have HF2 := Lib.hid (own_fresh HF.out (hat2.imp (fun e => e) (fun e => by first | exact e | (rw [e]; simp))) (show w.heap.size ≤ wr2.heap.size + 1 by have := HO.out.size; omega))
          have HO2 := Lib.hid ((HO.out.alloc (.cells #[iv 6, iv 0, iv 0, iv k] 47)).grown hg2 (fun k hk => .inr (HF.out k hk)))
          have HZ2 := Lib.hid (sl_beside (HZ.out.alloc (.cells #[iv 6, iv 0, iv 0, iv k] 47)) hg2 (fun g hg e => HD.out g e hg))
          have HD2 := Lib.hid (show ∀ g, v2.ownBlock = some g → (Value.slice za k zc).ownBlock ≠ some g from fun g hg hz => by
            rcases hat2 with e | e
            · rw [e] at hg; exact HD.out g hg hz
            · rw [e] at hg
              injection hg with hg
              have := HZ.out.lt g hz
              omega)
          obtain ⟨ub, uc2, hu2, _, _⟩ := hS2.shape
          subst hu2
          clear hS2 hg2 hat2 HS HZ HF HD HO
          go_wp2_with (at_builtin; refine wpList_append_one (news := [iv 7, iv 0, iv 3, iv 0]) rfl (.tmp 57) (.tmp 59) 45 rfl 47 j47 _ 4 32 Try.underlying45 si sz0 sz1 sz2 rfl (by decide) rfl (HZ2.out.alloc _) rfl (Blk.new _ _ _) rfl (by simp [Value.oneCell']) (by unfold maxLen; omega) (by omega) ?_)
          intro v3 w3 hS3 hg3 hat3
          have HF3 := Lib.hid (own_fresh HG.out (hat3.imp (fun e => e) (fun e => by first | exact e | (rw [e]; simp))) (show w.heap.size ≤ w2.heap.size + 1 by have := HO2.out.size; omega))
          have HO3 := Lib.hid ((HO2.out.alloc (.cells #[iv 7, iv 0, iv 3, iv 0] 47)).grown hg3 (fun k hk => .inr (HG.out k hk)))
          have HS3 := Lib.hid (sl_beside (HS2.out.alloc (.cells #[iv 7, iv 0, iv 3, iv 0] 47)) hg3 (fun g hg e => HD2.out g hg e))
          have HD3 := Lib.hid (show ∀ g, (Value.slice ub (k + 1) uc2).ownBlock = some g → v3.ownBlock ≠ some g from fun g hu hg => by
            rcases hat3 with e | e
            · rw [e] at hg; exact HD2.out g hu hg
            · rw [e] at hg
              injection hg with hg
              have := HS2.out.lt g hu
              omega)
          obtain ⟨ud, uc3, hu3, _, _⟩ := hS3.shape
          subst hu3
          have HZ3 := Lib.hid hS3
          clear hS3 hg3 hat3 HS2 HZ2 HD2 HO2
          go_wp2
          go_roundw
          case measure => simp [intOf]; omega
          case rel => exact ⟨k + 1, by omega, by go_num, Lib.hid (by rw [qPut_succ, flatA_append]; exact HS3.out), Lib.hid (by rw [qTake_succ, flatA_append]; exact HZ3.out), HF2, HF3, HD3, HO3⟩
        · obtain rfl : k = n := by omega
          have b0 : Sl (wr2.alloc (.cells #[.slice ua k uc, .slice za k zc] 45)) 47 4 (.slice ua k uc) k (flatA (qPut k)) := HS.out.alloc _
          have b1 : Sl (wr2.alloc (.cells #[.slice ua k uc, .slice za k zc] 45)) 47 4 (.slice za k zc) k (flatA (qTake k)) := HZ.out.alloc _
          have b2 : Blk (wr2.alloc (.cells #[.slice ua k uc, .slice za k zc] 45)) wr2.heap.size 45 #[.slice ua k uc, .slice za k zc] := Blk.new _ _ _
          have hO3 : Only [] w (wr2.alloc (.cells #[.slice ua k uc, .slice za k zc] 45)) := HO.out.alloc _
          clear HS HZ HF HG HD HO
          go_wp2_with fail
          generalize wr2.alloc (.cells #[.slice ua k uc, .slice za k zc] 45) = w3 at *
          have HT := Lib.hid (show TasksV w3.heap.size w3 (.slice (some ⟨wr2.heap.size, 0, none⟩) 2 2) (qTasks k) from ⟨_, _, rfl, Nat.le_refl _, by decide, fun _ => ⟨_, 0, rfl, b2.lt, b2.lt, fun i hi => by
            match i, hi with
            | 0, _ => exact ⟨_, b2.cell _, acts_sl b0 (qPut_len k).symm⟩
            | 1, _ => exact ⟨_, b2.cell _, acts_sl b1 (qTake_len k).symm⟩⟩⟩)
          have HR := Lib.hid (run_ok room 65536 HT.out (H.out.only hO3) (fun g hg => Nat.lt_of_lt_of_le (HV.out g hg) hO3.size) (q_asked (n := k) (by omega) (by omega) (by omega) (by omega) HPN.out))
          refine HR.out.mono ?_
          clear HR HT
          rintro e w4 ⟨v, rfl, hV, hB⟩
          have hV : RunV w3.heap.size w4 (all (ps.map Int.toNat) 65536 (begin_ (qTasks k) room)) v := hV
          have HO4 := Lib.hid (hO3.trans (Only.of_below hB []))
          clear b0 b1 b2 hO3 hB HPN
          obtain ⟨s, hs, hn, kt, k3, kh0, kh1, kl⟩ := queues_end (n := k) (room := room) (by omega) (by omega) (by omega) (ps.map Int.toNat)
          rw [hs] at hV
          clear hs
          obtain ⟨tr, rg, en, qs, vs, hv, htr, hrg, hen, hqs, _, _, _, _, _⟩ := hV.it
          rw [hn] at hen
          obtain ⟨ya, yc, hy, _, _⟩ := hqs.shape
          obtain ⟨g1, o1, c1, hr1, hg1, _, _, hc1, _⟩ := hrg.form (by omega)
          obtain ⟨g2, o2, c2, hr2, hg2, _, _, hc2, _⟩ := hen.form (by omega)
          obtain ⟨g3, o3, c3, hr3, hg3, _, _, hc3, _⟩ := htr.form (by omega)
          have d3 : w4.cell? ⟨g1, o1 + 3, none⟩ = some (iv (s.regs 3)) := hc1 3 (by omega)
          have f0 : w4.cell? ⟨g2, o2, none⟩ = some (iv (how s (s.ts 0))) := hc2 0 (by omega)
          have f2 : w4.cell? ⟨g2, o2 + 2, none⟩ = some (iv (how s (s.ts 1))) := hc2 2 (by omega)
          rw [k3] at d3
          rw [kh0] at f0
          rw [kh1] at f2
          rw [show ((k - 1 : Nat) : Int) = (k : Int) - 1 by omega] at d3
          have HC3 := Lib.hid (show ∀ i (h : i < s.trace.length), w4.cell? ⟨g3, o3 + i * 2, none⟩ = some (iv (s.trace[i].1 : Int)) from fun i hi => (hc3 (i * 2) (by omega)).trans (turns_at s.trace i hi))
          have HL := Lib.hid kl
          have HKT := Lib.hid kt
          subst hy hr1 hr2 hr3
          subst hv
          clear hc1 hc2 hc3 htr hrg hen hqs hV kl kh0 kh1 k3
          rw [kt]
          clear kt
          go_wp2
          go_loopw [13, 14] (fun y z wr => ∃ i : Nat, i ≤ 2 * k ∧ y = .int .i64 (level (s.trace.take i)) ∧ z = .int .i64 i ∧ wr = w4.alloc (.cells #[.int .i64 (2 * (k : Int)), .slice (some ⟨g3, o3, none⟩) (2 * k) c3, .slice (some ⟨g1, o1, none⟩) 8 c1, .slice (some ⟨g2, o2, none⟩) 2 c2, .slice ya 4 yc] 33)) (fun _ z _ => 2 * k - (intOf z).toNat)
          case atStart => exact ⟨0, Nat.zero_le _, rfl, rfl, rfl⟩
          case round =>
            obtain ⟨i, hi, rfl, rfl, rfl⟩ := hrel
            by_cases hil : i < 2 * k
            · have hiz : (i : Int) < 2 * (k : Int) := by omega
              have hit : i < s.trace.length := by rw [HKT.out]; exact hil
              have x := HC3.out i hit
              have hl0 := HL.out i (by omega)
              have hl1 := HL.out (i + 1) (by omega)
              have htk := level_take hit
              rw [htk] at hl1
              have HTK := Lib.hid htk
              clear htk
              generalize s.trace[i].1 = tk at x hl1 HTK
              generalize hc : level (s.trace.take i) = c at hl0 hl1 HTK
              clear hc hit HC3 HL HKT f0 f2
              by_cases ht : tk = 0
              · subst ht
                rw [if_pos rfl] at hl1 HTK
                go_wp2
                go_roundw
                case measure => simp [intOf]; omega
                case rel => exact ⟨i + 1, by omega, by rw [HTK.out], by go_num, by first | rfl | trivial⟩
              · rw [if_neg ht] at hl1 HTK
                have htz : ((tk : Int) == 0) = false := by simp; omega
                have hcs : c + -1 = c - 1 := by omega
                rw [hcs] at hl1 HTK
                clear hcs
                go_wp2
                go_roundw
                case measure => simp [intOf]; omega
                case rel => exact ⟨i + 1, by omega, by rw [HTK.out], by go_num, by first | rfl | trivial⟩
            · obtain rfl : i = 2 * k := by omega
              clear HC3 HL HKT
              go_wp2
              exact bodyPost_ret (results_tmp rfl _ _ _) rfl ⟨rfl, HO4.out.alloc _⟩
theorem queues_row (W : World) (n room : Int) (v : Value) (l : List Int) (h : Row (fun s => .int .i64 s) W v l) (_hw : ∀ i (h : i < l.length), (Lit.int .i64 l[i]).wf = true) (ho : ∀ g, v.ownBlock = some g → g < W.heap.size) : Calls Try.prog 6 #[.int .i64 n, .int .i64 room, v] W fun e W' => e = .returned (.bool true) ∧ Only [] W W' := queues_ok n room h ho
end Go.Proofs.Ytompelilflckkaa
