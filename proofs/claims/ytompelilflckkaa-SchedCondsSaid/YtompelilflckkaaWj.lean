/-
  SchedConds: its walk.
-/
import Derived.Test.YtompelilflckkaaWi
import Derived.Test.YtompelilflckkaaWf
namespace Go.Proofs.Ytompelilflckkaa
open Go.RowKit Go.Fl

theorem c_asked (cast : Bool) {n : Nat} {ps : List Int} (h1 : n ≤ 15) (h5 : ps.length ≤ 3000) (h6 : ∀ k ∈ ps, 0 ≤ k) : askedM (cTasks cast n) 16 ps 65536 = 0 := by
  have hS : cS cast n ≤ 15 ∨ cS cast n = 1 := by unfold cS; split <;> omega
  refine asked_of (by rw [cTasks_len]; omega) (by omega) (by omega) (by omega) (by omega) (by omega) h6 fun l hl1 => ?_
  rcases List.mem_append.1 hl1 with hl1 | hl1
  · obtain rfl := (List.mem_replicate.1 hl1).2
    refine ⟨by decide, fun a ha => ?_⟩
    simp only [cWait, List.mem_cons, List.not_mem_nil, or_false] at ha
    rcases ha with rfl | rfl | rfl | rfl | rfl <;> exact ⟨by simp [oddA], by simp [wrongA, rightB, btw]⟩
  · obtain rfl : l = cWake cast n := by simpa using hl1
    refine ⟨by rw [cWake_len]; omega, fun a ha => ?_⟩
    unfold cWake at ha
    simp only [List.mem_append, List.mem_singleton] at ha
    rcases ha with ((ha | rfl) | ha) | rfl
    · obtain rfl := (List.mem_replicate.1 ha).2
      exact ⟨by simp [oddA], by simp [wrongA, rightB, btw]⟩
    · exact ⟨by simp [oddA], by simp [wrongA, rightB, btw]⟩
    · obtain rfl := (List.mem_replicate.1 ha).2
      cases cast <;> exact ⟨by simp [oddA], by simp [wrongA, rightB, btw]⟩
    · exact ⟨by simp [oddA], by simp [wrongA, rightB, btw]⟩
theorem sl_many {w : World} {g e size m c : Nat} {l : List Value} (h : Blk w g e l.toArray) (hl : l.length = m * size) (h0 : 0 < l.length) (hc : c = m) (hm : m ≤ maxLen) : Sl w e size (.slice (some ⟨g, 0, none⟩) m c) m l := by
  subst hc
  exact ⟨hl, .inr ⟨g, 0, c, _, rfl, h, Nat.le_refl _, hm, by simp; omega, by simp; rw [← hl]; exact List.take_length⟩⟩
def cF (cast : Bool) (n : Nat) : Nat → List A := fun j => if j < n then cWait else cWake cast n
theorem cTasks_at (cast : Bool) (n : Nat) (i : Nat) (h : i < (cTasks cast n).length) : (cTasks cast n)[i] = cF cast n i := by
  rw [cTasks_len] at h
  unfold cF
  by_cases e : i < n
  · rw [if_pos e]
    simp only [cTasks]
    rw [List.getElem_append_left (by simpa using e), List.getElem_replicate]
  · rw [if_neg e]
    obtain rfl : i = n := by omega
    simp only [cTasks]
    rw [List.getElem_append_right (by simp)]
    simp
theorem cTakes_succ (k : Nat) : cTakes (k + 1) = cTakes k ++ [⟨7, 1, 0, 0⟩] := List.replicate_succ'
theorem cSigs_succ (cast : Bool) (k : Nat) : cSigs cast (k + 1) = cSigs cast k ++ [⟨if cast = true then 5 else 4, 2, 0, 0⟩] := List.replicate_succ'
/-- The waker's acts so far. -/
def cPre (cast : Bool) (n m : Nat) : List A := cTakes n ++ [⟨1, 0, 0, 0⟩] ++ cSigs cast m
theorem cPre_zero (cast : Bool) (n : Nat) : cPre cast n 0 = cTakes n ++ [⟨1, 0, 0, 0⟩] := by
  unfold cPre
  rw [show cSigs cast 0 = [] from rfl, List.append_nil]
theorem cPre_succ (cast : Bool) (n m : Nat) : cPre cast n (m + 1) = cPre cast n m ++ [⟨if cast = true then 5 else 4, 2, 0, 0⟩] := by
  unfold cPre
  rw [cSigs_succ, List.append_assoc, List.append_assoc, List.append_assoc]
theorem cPre_all (cast : Bool) (n : Nat) : cF cast n n = cPre cast n (cS cast n) ++ [⟨2, 0, 0, 0⟩] := by
  unfold cF
  rw [if_neg (by omega)]; rfl
theorem cF_len (cast : Bool) (n : Nat) : (cF cast n n).length = n + 1 + cS cast n + 1 := by
  unfold cF
  rw [if_neg (by omega), cWake_len]; omega
set_option maxRecDepth 100000 in
set_option maxHeartbeats 12800000 in
theorem conds_ok {w : World} {v : Value} {ps : List Int} (n : Int) (cast : Bool) (h : Row intv w v ps) (hv : ∀ g, v.ownBlock = some g → g < w.heap.size) : Calls Try.prog 7 #[iv n, .bool cast, v] w fun e w' => e = .returned (.bool true) ∧ Only [] w w' := by
  obtain ⟨j47, si, sz0, sz1, sz2⟩ := info_parts info47
  obtain ⟨j45, ri, rz0, rz1, rz2⟩ := info_parts info45
  have H := Lib.hid h
  have HV := Lib.hid hv
  clear hv
  obtain ⟨a, cap, rfl, hcap, hmax, hcell⟩ := h
  have HBG := Lib.hid (begun_ok w)
  go_enter Try.func7, Try.ntmps7
  go_wp2_with fail
  refine HBG.out.mono ?_
  clear HBG
  rintro e w1 ⟨rfl, hO1⟩
  have HO1 := Lib.hid hO1
  clear hO1
  have HC := Lib.hid hcell
  clear hcell
  by_cases h1 : n < 1
  · go_wp2
    exact bodyPost_ret (results_tmp rfl _ _ _) rfl ⟨rfl, HO1.out⟩
  by_cases h2 : 15 < n
  · go_wp2
    exact bodyPost_ret (results_tmp rfl _ _ _) rfl ⟨rfl, HO1.out⟩
  by_cases h5 : 3000 < ps.length
  · have h5z : (3000 : Int) < (ps.length : Int) := by omega
    go_wp2
    exact bodyPost_ret (results_tmp rfl _ _ _) rfl ⟨rfl, HO1.out⟩
  have h5z : ¬ (3000 : Int) < (ps.length : Int) := by omega
  obtain ⟨n, rfl⟩ := nat_of (a := n) (by omega)
  go_wp2
  go_loopw [7] (fun z wr => ∃ k : Nat, k ≤ ps.length ∧ z = .int .i64 k ∧ Hid (∀ j (h : j < ps.length), j < k → 0 ≤ ps[j]) ∧ wr = w1) (fun z _ => ps.length - (intOf z).toNat)
  case atStart => exact ⟨0, Nat.zero_le _, rfl, Lib.hid (fun j _ h => absurd h (Nat.not_lt_zero _)), rfl⟩
  case round =>
    obtain ⟨k, hk, rfl, HP, rfl⟩ := hrel
    by_cases hkl : k < ps.length
    · have hkz : (k : Int) < (ps.length : Int) := by omega
      obtain ⟨gn, on, rfl, hgn, hcn⟩ := HC.out (by omega)
      have hx : wr.cell? ⟨gn, on + k, none⟩ = some (iv ps[k]) := (HO1.out.cell (p := ⟨gn, on + k, none⟩) hgn (by simp)).trans (hcn k hkl)
      clear hcn HC
      by_cases hneg : ps[k] < 0
      · go_wp2
        exact bodyPost_ret (results_tmp rfl _ _ _) rfl ⟨rfl, HO1.out⟩
      · go_wp2
        go_roundw
        case measure => simp [intOf]; omega
        case rel => exact ⟨k + 1, by omega, by go_num, Lib.hid (fun j hj hlt => by
            by_cases e : j < k
            · exact HP.out j hj e
            · obtain rfl : j = k := by omega
              omega), by first | rfl | trivial⟩
    · obtain rfl : k = ps.length := by omega
      have HPN := Lib.hid (show ∀ k ∈ ps, 0 ≤ k from fun x hx => by
        obtain ⟨j, hj, rfl⟩ := List.getElem_of_mem hx
        exact HP.out j hj hj)
      clear HP HC
      go_wp2
      go_loopw [8, 9] (fun u i wr2 => ∃ k : Nat, k ≤ n ∧ i = .int .i64 k ∧ Hid (LT w wr2 (cF cast n) u k)) (fun _ i _ => n - (intOf i).toNat)
      case atStart => exact ⟨0, Nat.zero_le _, rfl, Lib.hid (LT.nil _ HO1.out)⟩
      case round =>
        obtain ⟨wr2, hwo⟩ : ∃ x : World, x = wr := ⟨_, rfl⟩
        subst hwo
        obtain ⟨k, hk, rfl, HT⟩ := hrel
        clear HO1
        by_cases hkl : k < n
        · have hkz : (k : Int) < (n : Int) := by omega
          have hO2 : Only [] wr2 (wr2.alloc (.cells #[iv 1, iv 0, iv 0, iv 0, iv 6, iv 1, iv 0, iv 1, iv 3, iv 2, iv 0, iv 0, iv 8, iv 3, iv 0, iv 1, iv 2, iv 0, iv 0, iv 0] 47)) := (Only.refl _ _).alloc _
          have HT2 := Lib.hid (HT.out.far hO2)
          obtain ⟨vs, hvs, hvs2⟩ := HT2.out.it
          have HVS := Lib.hid hvs
          have HVS2 := Lib.hid hvs2
          have HL : Hid (Sl (wr2.alloc (.cells #[iv 1, iv 0, iv 0, iv 0, iv 6, iv 1, iv 0, iv 1, iv 3, iv 2, iv 0, iv 0, iv 8, iv 3, iv 0, iv 1, iv 2, iv 0, iv 0, iv 0] 47)) 47 4 (.slice (some ⟨wr2.heap.size, 0, none⟩) 5 5) (cF cast n k).length (flatA (cF cast n k))) := Lib.hid (by
            unfold cF
            rw [if_pos hkl]
            exact sl_many (l := flatA cWait) (Blk.new _ _ _) rfl (by decide) rfl (by decide))
          have HLO := Lib.hid (show ∀ g, (Value.slice (some ⟨wr2.heap.size, 0, none⟩) 5 5).ownBlock = some g → w.heap.size ≤ g from fun g hg => by simp [Value.ownBlock] at hg; have := HT.out.only.size; omega)
          obtain ⟨ta, tc, htv, _, _⟩ := hvs.shape
          subst htv
          have hbk : Blk ((wr2.alloc (.cells #[iv 1, iv 0, iv 0, iv 0, iv 6, iv 1, iv 0, iv 1, iv 3, iv 2, iv 0, iv 0, iv 8, iv 3, iv 0, iv 1, iv 2, iv 0, iv 0, iv 0] 47)).alloc (.cells #[.slice (some ⟨wr2.heap.size, 0, none⟩) 5 5] 45)) (wr2.heap.size + 1) 45 #[.slice (some ⟨wr2.heap.size, 0, none⟩) 5 5] := by
            have := Blk.new (wr2.alloc (.cells #[iv 1, iv 0, iv 0, iv 0, iv 6, iv 1, iv 0, iv 1, iv 3, iv 2, iv 0, iv 0, iv 8, iv 3, iv 0, iv 1, iv 2, iv 0, iv 0, iv 0] 47)) 45 #[.slice (some ⟨wr2.heap.size, 0, none⟩) 5 5]
            simpa using this
          clear hvs hvs2 hO2
          go_wp2_with (at_builtin; refine wpList_append_one (news := [.slice (some ⟨wr2.heap.size, 0, none⟩) 5 5]) rfl (.tmp 45) (.tmp 52) 22 rfl 45 j45 _ 1 24 Try.underlying22 ri rz0 rz1 rz2 rfl (by decide) rfl (HVS.out.alloc _) rfl hbk rfl (by simp [Value.oneCell']) (by unfold maxLen; omega) (by omega) ?_)
          intro v3 w3 hS3 hg3 hat3
          have HT3 := Lib.hid (HT2.out.more HVS.out HVS2.out HL.out HLO.out hg3 (hat3.imp (fun e => e) (fun e => by first | exact e | (rw [e]; simp))) hS3)
          obtain ⟨td, tc3, htv3, _, _⟩ := hS3.shape
          subst htv3
          clear hS3 hg3 hat3 HVS HVS2 HL HLO HT2 HT
          go_wp2
          go_roundw
          case measure => simp [intOf]; omega
          case rel => exact ⟨k + 1, by omega, by go_num, HT3⟩
        · obtain rfl : k = n := by omega
          obtain ⟨vs0, hvs0, _⟩ := HT.out.it
          obtain ⟨ta, tc, htv, _, _⟩ := hvs0.shape
          subst htv
          clear hvs0
          go_wp2
          go_loopw [10, 11] (fun u i wq => ∃ j : Nat, j ≤ k ∧ i = .int .i64 j ∧ Hid (Sl wq 47 4 u j (flatA (cTakes j))) ∧ Hid (∀ g, u.ownBlock = some g → wr2.heap.size ≤ g) ∧ Hid (Only [] wr2 wq)) (fun _ i _ => k - (intOf i).toNat)
          case atStart => exact ⟨0, Nat.zero_le _, rfl, Lib.hid (Sl.nil _ _ _), Lib.hid (fun g hg => by cases hg), Lib.hid (Only.refl _ _)⟩
          case round =>
            obtain ⟨wq, hwo⟩ : ∃ x : World, x = wr := ⟨_, rfl⟩
            subst hwo
            obtain ⟨j, hj, rfl, HS, HF, HO⟩ := hrel
            obtain ⟨ua, uc, hu, _, _⟩ := HS.out.shape
            subst hu
            by_cases hjl : j < k
            · have hjz : (j : Int) < (k : Int) := by omega
              go_wp2_with (at_builtin; refine wpList_append_one (news := [iv 7, iv 1, iv 0, iv 0]) rfl (.tmp 59) (.tmp 61) 45 rfl 47 j47 _ 4 32 Try.underlying45 si sz0 sz1 sz2 rfl (by decide) rfl (HS.out.alloc _) rfl (Blk.new _ _ _) rfl (by simp [Value.oneCell']) (by unfold maxLen; omega) (by omega) ?_)
              intro v2 w2 hS2 hg2 hat2
              have HS2 := Lib.hid hS2
              have HF2 := Lib.hid (own_fresh (W := wr2) HF.out (hat2.imp (fun e => e) (fun e => by first | exact e | (rw [e]; simp))) (show wr2.heap.size ≤ wq.heap.size + 1 by have := HO.out.size; omega))
              have HO2 := Lib.hid ((HO.out.alloc (.cells ([iv 7, iv 1, iv 0, iv 0]).toArray 47)).grown hg2 (fun k hk => .inr (HF.out k hk)))
              obtain ⟨ub2, uc2, hu2, _, _⟩ := hS2.shape
              subst hu2
              clear hS2 hg2 hat2
              clear HS HF HO
              go_wp2
              go_roundw
              case measure => simp [intOf]; omega
              case rel => exact ⟨j + 1, by omega, by go_num, Lib.hid (by rw [cTakes_succ, flatA_append]; exact HS2.out), HF2, HO2⟩
            · obtain rfl : j = k := by omega
              go_wp2_with (at_builtin; refine wpList_append_one (news := [iv 1, iv 0, iv 0, iv 0]) rfl (.tmp 63) (.tmp 65) 45 rfl 47 j47 _ 4 32 Try.underlying45 si sz0 sz1 sz2 rfl (by decide) rfl (HS.out.alloc _) rfl (Blk.new _ _ _) rfl (by simp [Value.oneCell']) (by unfold maxLen; omega) (by omega) ?_)
              intro v2 w2 hS2 hg2 hat2
              have HS2 := Lib.hid hS2
              have HF2 := Lib.hid (own_fresh (W := wr2) HF.out (hat2.imp (fun e => e) (fun e => by first | exact e | (rw [e]; simp))) (show wr2.heap.size ≤ wq.heap.size + 1 by have := HO.out.size; omega))
              have HO2 := Lib.hid ((HO.out.alloc (.cells ([iv 1, iv 0, iv 0, iv 0]).toArray 47)).grown hg2 (fun k hk => .inr (HF.out k hk)))
              obtain ⟨ub2, uc2, hu2, _, _⟩ := hS2.shape
              subst hu2
              clear hS2 hg2 hat2
              clear HS HF HO
              have HSN : Hid (Sl w2 47 4 (.slice ub2 (j + 1) uc2) (j + 1) (flatA (cTakes j ++ [⟨1, 0, 0, 0⟩] ++ cSigs cast 0))) := Lib.hid (by
                rw [show cSigs cast 0 = [] from rfl, List.append_nil, flatA_append]; exact HS2.out)
              clear HS2
              go_wp2
              go_loopw [10, 12] (fun u i wp => ∃ m : Nat, m ≤ cS cast j ∧ i = .int .i64 m ∧ Hid (Sl wp 47 4 u (j + 1 + m) (flatA (cPre cast j m))) ∧ Hid (∀ g, u.ownBlock = some g → wr2.heap.size ≤ g) ∧ Hid (Only [] wr2 wp)) (fun _ i _ => j + 1 - (intOf i).toNat)
              case atStart => exact ⟨0, Nat.zero_le _, rfl, HSN, HF2, HO2⟩
              case round =>
                obtain ⟨wp, hwo⟩ : ∃ x : World, x = wr := ⟨_, rfl⟩
                subst hwo
                obtain ⟨m, hm, rfl, HS, HF, HO⟩ := hrel
                clear HSN HF2 HO2
                obtain ⟨ue, uce, hue, _, _⟩ := HS.out.shape
                subst hue
                by_cases hml : m < cS cast j
                · have hmz : (m : Int) < (j : Int) := by unfold cS at hml; cases cast <;> simp at hml <;> omega
                  have hfl : flatA (cPre cast j (m + 1)) = flatA (cPre cast j m) ++ flatA [⟨if cast = true then 5 else 4, 2, 0, 0⟩] := by
                    rw [cPre_succ, flatA_append]
                  have HFL := Lib.hid hfl
                  clear hfl
                  cases cast
                  · have hml : m < j := hml
                    by_cases hm0 : m = 0
                    · subst hm0
                      go_wp2_with (at_builtin; refine wpList_append_one (news := [iv 4, iv 2, iv 0, iv 0]) rfl (.tmp 85) (.tmp 87) 45 rfl 47 j47 _ 4 32 Try.underlying45 si sz0 sz1 sz2 rfl (by decide) rfl (HS.out.alloc _) rfl (Blk.new _ _ _) rfl (by simp [Value.oneCell']) (by unfold maxLen; omega) (by omega) ?_)
                      intro v3 w3 hS2 hg2 hat2
                      have HS3 := Lib.hid hS2
                      have HF3 := Lib.hid (own_fresh (W := wr2) HF.out (hat2.imp (fun e => e) (fun e => by first | exact e | (rw [e]; simp))) (show wr2.heap.size ≤ wp.heap.size + 1 by have := HO.out.size; omega))
                      have HO3 := Lib.hid ((HO.out.alloc (.cells ([iv 4, iv 2, iv 0, iv 0]).toArray 47)).grown hg2 (fun k hk => .inr (HF.out k hk)))
                      obtain ⟨ub2, uc2, hu2, _, _⟩ := hS2.shape
                      subst hu2
                      clear hS2 hg2 hat2
                      clear HS HF HO
                      go_wp2
                      go_roundw
                      case measure => simp [intOf] <;> omega
                      case rel => exact ⟨1, hml, by first | rfl | go_num, Lib.hid (by rw [HFL.out]; exact HS3.out), HF3, HO3⟩
                    · have hmz0 : ((m : Int) == 0) = false := by simp; omega
                      go_wp2_with (at_builtin; refine wpList_append_one (news := [iv 4, iv 2, iv 0, iv 0]) rfl (.tmp 85) (.tmp 87) 45 rfl 47 j47 _ 4 32 Try.underlying45 si sz0 sz1 sz2 rfl (by decide) rfl (HS.out.alloc _) rfl (Blk.new _ _ _) rfl (by simp [Value.oneCell']) (by unfold maxLen; omega) (by omega) ?_)
                      intro v3 w3 hS2 hg2 hat2
                      have HS3 := Lib.hid hS2
                      have HF3 := Lib.hid (own_fresh (W := wr2) HF.out (hat2.imp (fun e => e) (fun e => by first | exact e | (rw [e]; simp))) (show wr2.heap.size ≤ wp.heap.size + 1 by have := HO.out.size; omega))
                      have HO3 := Lib.hid ((HO.out.alloc (.cells ([iv 4, iv 2, iv 0, iv 0]).toArray 47)).grown hg2 (fun k hk => .inr (HF.out k hk)))
                      obtain ⟨ub2, uc2, hu2, _, _⟩ := hS2.shape
                      subst hu2
                      clear hS2 hg2 hat2
                      clear HS HF HO
                      go_wp2
                      go_roundw
                      case measure => simp [intOf] <;> omega
                      case rel => exact ⟨m + 1, hml, by go_num, Lib.hid (by rw [HFL.out]; exact HS3.out), HF3, HO3⟩
                  · obtain rfl : m = 0 := by unfold cS at hml; simp at hml; omega
                    go_wp2_with (at_builtin; refine wpList_append_one (news := [iv 5, iv 2, iv 0, iv 0]) rfl (.tmp 81) (.tmp 83) 45 rfl 47 j47 _ 4 32 Try.underlying45 si sz0 sz1 sz2 rfl (by decide) rfl (HS.out.alloc _) rfl (Blk.new _ _ _) rfl (by simp [Value.oneCell']) (by unfold maxLen; omega) (by omega) ?_)
                    intro v3 w3 hS2 hg2 hat2
                    have HS3 := Lib.hid hS2
                    have HF3 := Lib.hid (own_fresh (W := wr2) HF.out (hat2.imp (fun e => e) (fun e => by first | exact e | (rw [e]; simp))) (show wr2.heap.size ≤ wp.heap.size + 1 by have := HO.out.size; omega))
                    have HO3 := Lib.hid ((HO.out.alloc (.cells ([iv 5, iv 2, iv 0, iv 0]).toArray 47)).grown hg2 (fun k hk => .inr (HF.out k hk)))
                    obtain ⟨ub2, uc2, hu2, _, _⟩ := hS2.shape
                    subst hu2
                    clear hS2 hg2 hat2
                    clear HS HF HO
                    go_wp2
                    go_roundw
                    case measure => simp [intOf] <;> omega
                    case rel => exact ⟨1, (show 1 ≤ cS true j from Nat.le_refl _), by first | rfl | go_num, Lib.hid (by rw [HFL.out]; exact HS3.out), HF3, HO3⟩
                · cases cast
                  · have hmj : j = m := by have : cS false j = j := rfl; omega
                    subst hmj
                    have hcs : cS false j = j := rfl
                    go_wp2_with (at_builtin; refine wpList_append_one (news := [iv 2, iv 0, iv 0, iv 0]) rfl (.tmp 89) (.tmp 91) 45 rfl 47 j47 _ 4 32 Try.underlying45 si sz0 sz1 sz2 rfl (by decide) rfl (HS.out.alloc _) rfl (Blk.new _ _ _) rfl (by simp [Value.oneCell']) (by unfold maxLen; omega) (by omega) ?_)
                    intro v3 w3 hS2 hg2 hat2
                    have HS3 := Lib.hid hS2
                    have HF3 := Lib.hid (own_fresh (W := wr2) HF.out (hat2.imp (fun e => e) (fun e => by first | exact e | (rw [e]; simp))) (show wr2.heap.size ≤ wp.heap.size + 1 by have := HO.out.size; omega))
                    have HO3 := Lib.hid ((HO.out.alloc (.cells ([iv 2, iv 0, iv 0, iv 0]).toArray 47)).grown hg2 (fun k hk => .inr (HF.out k hk)))
                    obtain ⟨ub2, uc2, hu2, _, _⟩ := hS2.shape
                    subst hu2
                    clear hS2 hg2 hat2
                    clear HS HF HO
                    have HT2 := Lib.hid (HT.out.far HO3.out)
                    obtain ⟨vs, hvs, hvs2⟩ := HT2.out.it
                    have HVS := Lib.hid hvs
                    have HVS2 := Lib.hid hvs2
                    have HL : Hid (Sl w3 47 4 (.slice ub2 (j + 1 + j + 1) uc2) (cF false j j).length (flatA (cF false j j))) := Lib.hid (by
                      rw [cF_len, cPre_all, flatA_append, hcs]
                      exact HS3.out)
                    clear hcs
                    have HLO := Lib.hid (show ∀ g, (Value.slice ub2 (j + 1 + j + 1) uc2).ownBlock = some g → w.heap.size ≤ g from fun g hg => by have := HF3.out g hg; have := HT.out.only.size; omega)
                    obtain ⟨tb, tbc, htvb, _, _⟩ := hvs.shape
                    injection htvb with e1 _ e3
                    subst e1
                    subst e3
                    clear hvs hvs2 HS3 HF3
                    go_wp2_with (at_builtin; refine wpList_append_one (news := [.slice ub2 (j + 1 + j + 1) uc2]) rfl (.tmp 94) (.tmp 96) 22 rfl 45 j45 _ 1 24 Try.underlying22 ri rz0 rz1 rz2 rfl (by decide) rfl (HVS.out.alloc _) rfl (Blk.new _ _ _) rfl (by simp [Value.oneCell']) (by unfold maxLen; omega) (by omega) ?_)
                    intro v5 w5 hS5 hg5 hat5
                    have HT5 := Lib.hid (HT2.out.more HVS.out HVS2.out HL.out HLO.out hg5 hat5 hS5)
                    obtain ⟨td, tc3, htv3, _, _⟩ := hS5.shape
                    subst htv3
                    clear hS5 hg5 hat5 HVS HVS2 HL HLO HT2 HT HO3
                    have HTT := Lib.hid (show TasksV w5.heap.size w5 (.slice td (j + 1) tc3) (cTasks false j) from LT.tasks (w := w) (f := cF false j) (by rw [cTasks_len]; exact HT5.out) (cTasks_at false j))
                    have HR := Lib.hid (run_ok 16 65536 HTT.out (H.out.only HT5.out.only) (fun g hg => Nat.lt_of_lt_of_le (HV.out g hg) HT5.out.only.size) (c_asked false (n := j) (by omega) (by omega) HPN.out))
                    have HO5 := Lib.hid HT5.out.only
                    clear HT5 HTT
                    go_wp2_with fail
                    refine HR.out.mono ?_
                    clear HR
                    rintro e w6 ⟨v, rfl, hV, hB⟩
                    have hV : RunV w5.heap.size w6 (all (ps.map Int.toNat) 65536 (begin_ (cTasks false j) 16)) v := hV
                    have HO6 := Lib.hid (HO5.out.trans (Only.of_below hB []))
                    clear hB HPN HO5
                    obtain ⟨s, hs, hn, kh, kq⟩ := conds_end false (n := j) (by omega) (by omega) (ps.map Int.toNat)
                    rw [hs] at hV
                    clear hs
                    obtain ⟨tr, rg, en, qs, vs, hv, htr, hrg, hen, hqs, _, _, _, _, _⟩ := hV.it
                    rw [hn] at hen
                    obtain ⟨xa, xc, hx, _, _⟩ := htr.shape
                    obtain ⟨ya, yc, hy, _, _⟩ := hqs.shape
                    obtain ⟨g1, o1, c1, hr1, hg1, _, _, hc1, _⟩ := hrg.form (by omega)
                    obtain ⟨g2, o2, c2, hr2, hg2, _, _, hc2, _⟩ := hen.form (by omega)
                    have d3 : w6.cell? ⟨g1, o1 + 3, none⟩ = some (iv (s.regs 3)) := hc1 3 (by omega)
                    rw [kq] at d3
                    have HC2 := Lib.hid (show ∀ i, i < j + 1 → w6.cell? ⟨g2, o2 + i * 2, none⟩ = some (iv 1) from fun i hi => (hc2 (i * 2) (by omega)).trans (by rw [ends_at s (j + 1) i hi, kh i hi]))
                    subst hx hy hr1 hr2
                    subst hv
                    clear hc1 hc2 htr hrg hen hqs hV kh
                    go_wp2
                    go_loopw [15] (fun z wr => ∃ i : Nat, i ≤ j + 1 ∧ z = .int .i64 i ∧ wr = w6.alloc (.cells #[.int .i64 s.trace.length, .slice xa s.trace.length xc, .slice (some ⟨g1, o1, none⟩) 8 c1, .slice (some ⟨g2, o2, none⟩) (j + 1) c2, .slice ya 4 yc] 33)) (fun z _ => j + 1 - (intOf z).toNat)
                    case atStart => exact ⟨0, Nat.zero_le _, rfl, rfl⟩
                    case round =>
                      obtain ⟨i, hi, rfl, rfl⟩ := hrel
                      by_cases hil : i < j + 1
                      · have hiz : (i : Int) ≤ (j : Int) := by omega
                        have x := HC2.out i hil
                        clear HC2
                        go_wp2
                        go_roundw
                        case measure => simp [intOf] <;> omega
                        case rel => exact ⟨i + 1, by omega, by go_num, by first | rfl | trivial⟩
                      · obtain rfl : i = j + 1 := by omega
                        have hiz : ¬ ((j : Int) + 1 ≤ (j : Int)) := by omega
                        clear HC2
                        go_wp2
                        exact bodyPost_ret (results_tmp rfl _ _ _) rfl ⟨rfl, HO6.out.alloc _⟩
                  · obtain rfl : m = 1 := by have : cS true j = 1 := rfl; omega
                    have hcs : cS true j = 1 := rfl
                    by_cases h1j : (1 : Int) < (j : Int)
                    ·
                      go_wp2_with (at_builtin; refine wpList_append_one (news := [iv 2, iv 0, iv 0, iv 0]) rfl (.tmp 89) (.tmp 91) 45 rfl 47 j47 _ 4 32 Try.underlying45 si sz0 sz1 sz2 rfl (by decide) rfl (HS.out.alloc _) rfl (Blk.new _ _ _) rfl (by simp [Value.oneCell']) (by unfold maxLen; omega) (by omega) ?_)
                      intro v3 w3 hS2 hg2 hat2
                      have HS3 := Lib.hid hS2
                      have HF3 := Lib.hid (own_fresh (W := wr2) HF.out (hat2.imp (fun e => e) (fun e => by first | exact e | (rw [e]; simp))) (show wr2.heap.size ≤ wp.heap.size + 1 by have := HO.out.size; omega))
                      have HO3 := Lib.hid ((HO.out.alloc (.cells ([iv 2, iv 0, iv 0, iv 0]).toArray 47)).grown hg2 (fun k hk => .inr (HF.out k hk)))
                      obtain ⟨ub2, uc2, hu2, _, _⟩ := hS2.shape
                      subst hu2
                      clear hS2 hg2 hat2
                      clear HS HF HO
                      have HT2 := Lib.hid (HT.out.far HO3.out)
                      obtain ⟨vs, hvs, hvs2⟩ := HT2.out.it
                      have HVS := Lib.hid hvs
                      have HVS2 := Lib.hid hvs2
                      have HL : Hid (Sl w3 47 4 (.slice ub2 (j + 1 + 1 + 1) uc2) (cF true j j).length (flatA (cF true j j))) := Lib.hid (by
                        rw [cF_len, cPre_all, flatA_append, hcs]
                        exact HS3.out)
                      clear hcs
                      have HLO := Lib.hid (show ∀ g, (Value.slice ub2 (j + 1 + 1 + 1) uc2).ownBlock = some g → w.heap.size ≤ g from fun g hg => by have := HF3.out g hg; have := HT.out.only.size; omega)
                      obtain ⟨tb, tbc, htvb, _, _⟩ := hvs.shape
                      injection htvb with e1 _ e3
                      subst e1
                      subst e3
                      clear hvs hvs2 HS3 HF3
                      go_wp2_with (at_builtin; refine wpList_append_one (news := [.slice ub2 (j + 1 + 1 + 1) uc2]) rfl (.tmp 94) (.tmp 96) 22 rfl 45 j45 _ 1 24 Try.underlying22 ri rz0 rz1 rz2 rfl (by decide) rfl (HVS.out.alloc _) rfl (Blk.new _ _ _) rfl (by simp [Value.oneCell']) (by unfold maxLen; omega) (by omega) ?_)
                      intro v5 w5 hS5 hg5 hat5
                      have HT5 := Lib.hid (HT2.out.more HVS.out HVS2.out HL.out HLO.out hg5 hat5 hS5)
                      obtain ⟨td, tc3, htv3, _, _⟩ := hS5.shape
                      subst htv3
                      clear hS5 hg5 hat5 HVS HVS2 HL HLO HT2 HT HO3
                      have HTT := Lib.hid (show TasksV w5.heap.size w5 (.slice td (j + 1) tc3) (cTasks true j) from LT.tasks (w := w) (f := cF true j) (by rw [cTasks_len]; exact HT5.out) (cTasks_at true j))
                      have HR := Lib.hid (run_ok 16 65536 HTT.out (H.out.only HT5.out.only) (fun g hg => Nat.lt_of_lt_of_le (HV.out g hg) HT5.out.only.size) (c_asked true (n := j) (by omega) (by omega) HPN.out))
                      have HO5 := Lib.hid HT5.out.only
                      clear HT5 HTT
                      go_wp2_with fail
                      refine HR.out.mono ?_
                      clear HR
                      rintro e w6 ⟨v, rfl, hV, hB⟩
                      have hV : RunV w5.heap.size w6 (all (ps.map Int.toNat) 65536 (begin_ (cTasks true j) 16)) v := hV
                      have HO6 := Lib.hid (HO5.out.trans (Only.of_below hB []))
                      clear hB HPN HO5
                      obtain ⟨s, hs, hn, kh, kq⟩ := conds_end true (n := j) (by omega) (by omega) (ps.map Int.toNat)
                      rw [hs] at hV
                      clear hs
                      obtain ⟨tr, rg, en, qs, vs, hv, htr, hrg, hen, hqs, _, _, _, _, _⟩ := hV.it
                      rw [hn] at hen
                      obtain ⟨xa, xc, hx, _, _⟩ := htr.shape
                      obtain ⟨ya, yc, hy, _, _⟩ := hqs.shape
                      obtain ⟨g1, o1, c1, hr1, hg1, _, _, hc1, _⟩ := hrg.form (by omega)
                      obtain ⟨g2, o2, c2, hr2, hg2, _, _, hc2, _⟩ := hen.form (by omega)
                      have d3 : w6.cell? ⟨g1, o1 + 3, none⟩ = some (iv (s.regs 3)) := hc1 3 (by omega)
                      rw [kq] at d3
                      have HC2 := Lib.hid (show ∀ i, i < j + 1 → w6.cell? ⟨g2, o2 + i * 2, none⟩ = some (iv 1) from fun i hi => (hc2 (i * 2) (by omega)).trans (by rw [ends_at s (j + 1) i hi, kh i hi]))
                      subst hx hy hr1 hr2
                      subst hv
                      clear hc1 hc2 htr hrg hen hqs hV kh
                      go_wp2
                      go_loopw [15] (fun z wr => ∃ i : Nat, i ≤ j + 1 ∧ z = .int .i64 i ∧ wr = w6.alloc (.cells #[.int .i64 s.trace.length, .slice xa s.trace.length xc, .slice (some ⟨g1, o1, none⟩) 8 c1, .slice (some ⟨g2, o2, none⟩) (j + 1) c2, .slice ya 4 yc] 33)) (fun z _ => j + 1 - (intOf z).toNat)
                      case atStart => exact ⟨0, Nat.zero_le _, rfl, rfl⟩
                      case round =>
                        obtain ⟨i, hi, rfl, rfl⟩ := hrel
                        by_cases hil : i < j + 1
                        · have hiz : (i : Int) ≤ (j : Int) := by omega
                          have x := HC2.out i hil
                          clear HC2
                          go_wp2
                          go_roundw
                          case measure => simp [intOf] <;> omega
                          case rel => exact ⟨i + 1, by omega, by go_num, by first | rfl | trivial⟩
                        · obtain rfl : i = j + 1 := by omega
                          have hiz : ¬ ((j : Int) + 1 ≤ (j : Int)) := by omega
                          clear HC2
                          go_wp2
                          exact bodyPost_ret (results_tmp rfl _ _ _) rfl ⟨rfl, HO6.out.alloc _⟩
                    ·
                      go_wp2_with (at_builtin; refine wpList_append_one (news := [iv 2, iv 0, iv 0, iv 0]) rfl (.tmp 89) (.tmp 91) 45 rfl 47 j47 _ 4 32 Try.underlying45 si sz0 sz1 sz2 rfl (by decide) rfl (HS.out.alloc _) rfl (Blk.new _ _ _) rfl (by simp [Value.oneCell']) (by unfold maxLen; omega) (by omega) ?_)
                      intro v3 w3 hS2 hg2 hat2
                      have HS3 := Lib.hid hS2
                      have HF3 := Lib.hid (own_fresh (W := wr2) HF.out (hat2.imp (fun e => e) (fun e => by first | exact e | (rw [e]; simp))) (show wr2.heap.size ≤ wp.heap.size + 1 by have := HO.out.size; omega))
                      have HO3 := Lib.hid ((HO.out.alloc (.cells ([iv 2, iv 0, iv 0, iv 0]).toArray 47)).grown hg2 (fun k hk => .inr (HF.out k hk)))
                      obtain ⟨ub2, uc2, hu2, _, _⟩ := hS2.shape
                      subst hu2
                      clear hS2 hg2 hat2
                      clear HS HF HO
                      have HT2 := Lib.hid (HT.out.far HO3.out)
                      obtain ⟨vs, hvs, hvs2⟩ := HT2.out.it
                      have HVS := Lib.hid hvs
                      have HVS2 := Lib.hid hvs2
                      have HL : Hid (Sl w3 47 4 (.slice ub2 (j + 1 + 1 + 1) uc2) (cF true j j).length (flatA (cF true j j))) := Lib.hid (by
                        rw [cF_len, cPre_all, flatA_append, hcs]
                        exact HS3.out)
                      clear hcs
                      have HLO := Lib.hid (show ∀ g, (Value.slice ub2 (j + 1 + 1 + 1) uc2).ownBlock = some g → w.heap.size ≤ g from fun g hg => by have := HF3.out g hg; have := HT.out.only.size; omega)
                      obtain ⟨tb, tbc, htvb, _, _⟩ := hvs.shape
                      injection htvb with e1 _ e3
                      subst e1
                      subst e3
                      clear hvs hvs2 HS3 HF3
                      go_wp2_with (at_builtin; refine wpList_append_one (news := [.slice ub2 (j + 1 + 1 + 1) uc2]) rfl (.tmp 94) (.tmp 96) 22 rfl 45 j45 _ 1 24 Try.underlying22 ri rz0 rz1 rz2 rfl (by decide) rfl (HVS.out.alloc _) rfl (Blk.new _ _ _) rfl (by simp [Value.oneCell']) (by unfold maxLen; omega) (by omega) ?_)
                      intro v5 w5 hS5 hg5 hat5
                      have HT5 := Lib.hid (HT2.out.more HVS.out HVS2.out HL.out HLO.out hg5 hat5 hS5)
                      obtain ⟨td, tc3, htv3, _, _⟩ := hS5.shape
                      subst htv3
                      clear hS5 hg5 hat5 HVS HVS2 HL HLO HT2 HT HO3
                      have HTT := Lib.hid (show TasksV w5.heap.size w5 (.slice td (j + 1) tc3) (cTasks true j) from LT.tasks (w := w) (f := cF true j) (by rw [cTasks_len]; exact HT5.out) (cTasks_at true j))
                      have HR := Lib.hid (run_ok 16 65536 HTT.out (H.out.only HT5.out.only) (fun g hg => Nat.lt_of_lt_of_le (HV.out g hg) HT5.out.only.size) (c_asked true (n := j) (by omega) (by omega) HPN.out))
                      have HO5 := Lib.hid HT5.out.only
                      clear HT5 HTT
                      go_wp2_with fail
                      refine HR.out.mono ?_
                      clear HR
                      rintro e w6 ⟨v, rfl, hV, hB⟩
                      have hV : RunV w5.heap.size w6 (all (ps.map Int.toNat) 65536 (begin_ (cTasks true j) 16)) v := hV
                      have HO6 := Lib.hid (HO5.out.trans (Only.of_below hB []))
                      clear hB HPN HO5
                      obtain ⟨s, hs, hn, kh, kq⟩ := conds_end true (n := j) (by omega) (by omega) (ps.map Int.toNat)
                      rw [hs] at hV
                      clear hs
                      obtain ⟨tr, rg, en, qs, vs, hv, htr, hrg, hen, hqs, _, _, _, _, _⟩ := hV.it
                      rw [hn] at hen
                      obtain ⟨xa, xc, hx, _, _⟩ := htr.shape
                      obtain ⟨ya, yc, hy, _, _⟩ := hqs.shape
                      obtain ⟨g1, o1, c1, hr1, hg1, _, _, hc1, _⟩ := hrg.form (by omega)
                      obtain ⟨g2, o2, c2, hr2, hg2, _, _, hc2, _⟩ := hen.form (by omega)
                      have d3 : w6.cell? ⟨g1, o1 + 3, none⟩ = some (iv (s.regs 3)) := hc1 3 (by omega)
                      rw [kq] at d3
                      have HC2 := Lib.hid (show ∀ i, i < j + 1 → w6.cell? ⟨g2, o2 + i * 2, none⟩ = some (iv 1) from fun i hi => (hc2 (i * 2) (by omega)).trans (by rw [ends_at s (j + 1) i hi, kh i hi]))
                      subst hx hy hr1 hr2
                      subst hv
                      clear hc1 hc2 htr hrg hen hqs hV kh
                      go_wp2
                      go_loopw [15] (fun z wr => ∃ i : Nat, i ≤ j + 1 ∧ z = .int .i64 i ∧ wr = w6.alloc (.cells #[.int .i64 s.trace.length, .slice xa s.trace.length xc, .slice (some ⟨g1, o1, none⟩) 8 c1, .slice (some ⟨g2, o2, none⟩) (j + 1) c2, .slice ya 4 yc] 33)) (fun z _ => j + 1 - (intOf z).toNat)
                      case atStart => exact ⟨0, Nat.zero_le _, rfl, rfl⟩
                      case round =>
                        obtain ⟨i, hi, rfl, rfl⟩ := hrel
                        by_cases hil : i < j + 1
                        · have hiz : (i : Int) ≤ (j : Int) := by omega
                          have x := HC2.out i hil
                          clear HC2
                          go_wp2
                          go_roundw
                          case measure => simp [intOf] <;> omega
                          case rel => exact ⟨i + 1, by omega, by go_num, by first | rfl | trivial⟩
                        · obtain rfl : i = j + 1 := by omega
                          have hiz : ¬ ((j : Int) + 1 ≤ (j : Int)) := by omega
                          clear HC2
                          go_wp2
                          exact bodyPost_ret (results_tmp rfl _ _ _) rfl ⟨rfl, HO6.out.alloc _⟩
theorem conds_row (W : World) (n : Int) (cast : Bool) (v : Value) (l : List Int) (h : Row (fun s => .int .i64 s) W v l) (_hw : ∀ i (h : i < l.length), (Lit.int .i64 l[i]).wf = true) (ho : ∀ g, v.ownBlock = some g → g < W.heap.size) : Calls Try.prog 7 #[.int .i64 n, .bool cast, v] W fun e W' => e = .returned (.bool true) ∧ Only [] W W' := conds_ok n cast h ho
end Go.Proofs.Ytompelilflckkaa
