/-
  SchedLocks: its walk.
-/
import Derived.Test.YtompelilflckkaaWg
import Derived.Test.YtompelilflckkaaWc
namespace Go.Proofs.Ytompelilflckkaa
open Go.RowKit Go.Fl

theorem lTask_mem (y : Bool) (i : Nat) (a : A) : ∀ k, a ∈ lTask y i k → a ∈ lRound y i
  | 0, h => by cases h
  | k + 1, h => by
    rcases List.mem_append.1 h with h | h
    · exact lTask_mem y i a k h
    · exact h
theorem l_asked (y : Bool) {n times : Nat} {ps : List Int} (h1 : n ≤ 7) (h2 : times ≤ 8) (h5 : ps.length ≤ 3000) (h6 : ∀ k ∈ ps, 0 ≤ k) : askedM (lTasks y n times) 1 ps 65536 = 0 := by
  refine asked_of (by rw [lTasks_len]; omega) (by omega) (by omega) (by omega) (by omega) (by omega) h6 fun l hl1 => ?_
  obtain ⟨i, hi, rfl⟩ := List.mem_map.1 hl1
  have := List.mem_range.1 hi
  have hle : times * lM y ≤ 8 * 6 := Nat.mul_le_mul h2 (by rcases lM_two y with ⟨_, e⟩ | ⟨_, e⟩ <;> omega)
  refine ⟨by rw [lTask_len]; omega, fun a ha => ?_⟩
  have ha := lTask_mem y i a _ ha
  have : a = ⟨1, 2, 0, 0⟩ ∨ a = ⟨9, 0, 1, 0⟩ ∨ a = ⟨11, 0, 0, 0⟩ ∨ a = ⟨8, 1, 0, (i : Int) + 1⟩ ∨ a = ⟨9, 1, 0, 0⟩ ∨ a = ⟨2, 2, 0, 0⟩ := by
    cases y
    · have e : lRound false i = [⟨1, 2, 0, 0⟩, ⟨9, 0, 1, 0⟩, ⟨8, 1, 0, (i : Int) + 1⟩, ⟨9, 1, 0, 0⟩, ⟨2, 2, 0, 0⟩] := rfl
      rw [e] at ha
      simp only [List.mem_cons, List.not_mem_nil, or_false] at ha
      rcases ha with rfl | rfl | rfl | rfl | rfl <;> simp
    · have e : lRound true i = [⟨1, 2, 0, 0⟩, ⟨9, 0, 1, 0⟩, ⟨11, 0, 0, 0⟩, ⟨8, 1, 0, (i : Int) + 1⟩, ⟨9, 1, 0, 0⟩, ⟨2, 2, 0, 0⟩] := rfl
      rw [e] at ha
      simp only [List.mem_cons, List.not_mem_nil, or_false] at ha
      rcases ha with rfl | rfl | rfl | rfl | rfl | rfl <;> simp
  rcases this with rfl | rfl | rfl | rfl | rfl | rfl <;> exact ⟨by simp [oddA], by simp [wrongA, rightB, btw]⟩
theorem sl_types {w : World} {e e2 size size2 n n2 : Nat} {v v2 : Value} {xs xs2 : List Value} (h : Sl w e size v n xs) (h2 : Sl w e2 size2 v2 n2 xs2) (hne : e ≠ e2) : ∀ g, v.ownBlock = some g → v2.ownBlock ≠ some g := fun g h1 h3 => by
  obtain ⟨c1, b1⟩ := h.ty h1
  obtain ⟨c2, b2⟩ := h2.ty h3
  have := b1.symm.trans b2
  injection this with this
  injection this with _ h4
  exact hne h4
/-- The tasks so far. -/
structure LT (w wr : World) (f : Nat → List A) (u : Value) (k : Nat) : Prop where
  it : ∃ vs : List Value, Sl wr 45 1 u k vs ∧ ∀ j (h : j < vs.length), Sl wr 47 4 vs[j] (f j).length (flatA (f j)) ∧ ∀ g, vs[j].ownBlock = some g → w.heap.size ≤ g
  own : ∀ g, u.ownBlock = some g → w.heap.size ≤ g
  only : Only [] w wr
theorem LT.nil {w wr : World} (f : Nat → List A) (h : Only [] w wr) : LT w wr f (.slice none 0 0) 0 :=
  ⟨⟨[], Sl.nil _ _ _, fun j hj => absurd hj (Nat.not_lt_zero _)⟩, fun g hg => (by cases hg), h⟩
/-- What turns nothing that stood. -/
theorem LT.far {w wr w2 : World} {f : Nat → List A} {u : Value} {k : Nat} (h : LT w wr f u k) (ho : Only [] wr w2) : LT w w2 f u k := by
  obtain ⟨vs, h1, h2⟩ := h.it
  exact ⟨⟨vs, h1.only ho (fun _ _ => by simp), fun j hj => ⟨(h2 j hj).1.only ho (fun _ _ => by simp), (h2 j hj).2⟩⟩, h.own, h.only.trans ho⟩
/-- One more. -/
theorem LT.more {w wr w2 : World} {f : Nat → List A} {u u2 l : Value} {k : Nat} {vs : List Value} (h : LT w wr f u k) (h1 : Sl wr 45 1 u k vs) (h2 : ∀ j (h : j < vs.length), Sl wr 47 4 vs[j] (f j).length (flatA (f j)) ∧ ∀ g, vs[j].ownBlock = some g → w.heap.size ≤ g)
    (hl : Sl wr 47 4 l (f k).length (flatA (f k))) (hlo : ∀ g, l.ownBlock = some g → w.heap.size ≤ g)
    (hg : (wr.alloc (.cells #[l] 45)).grownBy w2 u.ownBlock) (hat : u2.ownBlock = u.ownBlock ∨ u2.ownBlock = some (wr.heap.size + 1)) (hs : Sl w2 45 1 u2 (k + 1) (vs ++ [l])) : LT w w2 f u2 (k + 1) := by
  have hlen := h1.len
  refine ⟨⟨vs ++ [l], hs, fun j hj => ?_⟩, own_fresh (W := w) h.own hat (by have := h.only.size; omega), (h.only.alloc _).grown hg (fun k hk => .inr (h.own k hk))⟩
  by_cases e : j < vs.length
  · rw [List.getElem_append_left e]
    exact ⟨sl_beside ((h2 j e).1.alloc _) hg (fun g hv h3 => sl_types (h2 j e).1 h1 (by decide) g hv h3), (h2 j e).2⟩
  · obtain rfl : j = k := by simp at hj; omega
    have e1 : (vs ++ [l])[j] = l := by
      rw [List.getElem_append_right (by omega)]
      simp
    rw [e1]
    exact ⟨sl_beside (hl.alloc _) hg (fun g hv h3 => sl_types hl h1 (by decide) g hv h3), hlo⟩
/-- As the scheduler reads them. -/
theorem LT.tasks {w wr : World} {f : Nat → List A} {u : Value} {acts : List (List A)} (h : LT w wr f u acts.length) (hf : ∀ i (hi : i < acts.length), acts[i] = f i) : TasksV wr.heap.size wr u acts := by
  obtain ⟨vs, h1, h2⟩ := h.it
  exact tasks_sl h1 rfl fun i hi hv => acts_sl (by rw [hf i hi]; exact (h2 i hv).1) (by rw [hf i hi])
theorem w64_in {n : Int} (h0 : 0 ≤ n) (h1 : n ≤ 1000) : wrap64 n = n := by unfold wrap64; omega
theorem locks_sum {q t i : Nat} (h : q * 2 = t * i * (i + 1)) (ht : t ≤ 8) (hi : i ≤ 7) : ((q : Int) == wrap64 ((wrap64 (wrap64 ((t : Int) * i) * ((i : Int) + 1))).tdiv 2)) = true := by
  have h1 : t * i ≤ 8 * 7 := Nat.mul_le_mul ht hi
  have h2 : t * i * (i + 1) ≤ (8 * 7) * 8 := Nat.mul_le_mul h1 (by omega)
  have e1 : (t : Int) * i = ((t * i : Nat) : Int) := by simp
  rw [e1, w64_in (n := ((t * i : Nat) : Int)) (by omega) (by omega)]
  have e2 : ((t * i : Nat) : Int) * ((i : Int) + 1) = ((q : Int)) * 2 := by
    have e3 : ((t * i * (i + 1) : Nat) : Int) = ((q * 2 : Nat) : Int) := by rw [h]
    simpa using e3
  rw [e2, w64_in (n := (q : Int) * 2) (by omega) (by omega), Int.mul_tdiv_cancel _ (by omega), w64_in (n := (q : Int)) (by omega) (by omega)]
  simp
set_option maxRecDepth 100000 in
set_option maxHeartbeats 12800000 in
theorem locks_ok {w : World} {v : Value} {ps : List Int} (n times : Int) (y : Bool) (h : Row intv w v ps) (hv : ∀ g, v.ownBlock = some g → g < w.heap.size) : Calls Try.prog 5 #[iv n, iv times, v, .bool y] w fun e w' => e = .returned (.bool true) ∧ Only [] w w' := by
  obtain ⟨j47, si, sz0, sz1, sz2⟩ := info_parts info47
  obtain ⟨j45, ri, rz0, rz1, rz2⟩ := info_parts info45
  have H := Lib.hid h
  have HV := Lib.hid hv
  clear hv
  obtain ⟨a, cap, rfl, hcap, hmax, hcell⟩ := h
  have HBG := Lib.hid (begun_ok w)
  go_enter Try.func5, Try.ntmps5
  go_wp2_with fail
  refine HBG.out.mono ?_
  clear HBG
  rintro e w1 ⟨rfl, hO1⟩
  have HO1 := Lib.hid hO1
  clear hO1
  have HC := Lib.hid hcell
  clear hcell
  by_cases h1 : n < 1
  · go_wp2
    exact bodyPost_ret (results_tmp rfl _ _ _) rfl ⟨rfl, HO1.out⟩
  by_cases h2 : 7 < n
  · go_wp2
    exact bodyPost_ret (results_tmp rfl _ _ _) rfl ⟨rfl, HO1.out⟩
  by_cases h3 : times < 1
  · go_wp2
    exact bodyPost_ret (results_tmp rfl _ _ _) rfl ⟨rfl, HO1.out⟩
  by_cases h4 : 8 < times
  · go_wp2
    exact bodyPost_ret (results_tmp rfl _ _ _) rfl ⟨rfl, HO1.out⟩
  by_cases h5 : 3000 < ps.length
  · have h5z : (3000 : Int) < (ps.length : Int) := by omega
    go_wp2
    exact bodyPost_ret (results_tmp rfl _ _ _) rfl ⟨rfl, HO1.out⟩
  have h5z : ¬ (3000 : Int) < (ps.length : Int) := by omega
  obtain ⟨n, rfl⟩ := nat_of (a := n) (by omega)
  obtain ⟨times, rfl⟩ := nat_of (a := times) (by omega)
  go_wp2
  go_loopw [9] (fun z wr => ∃ k : Nat, k ≤ ps.length ∧ z = .int .i64 k ∧ Hid (∀ j (h : j < ps.length), j < k → 0 ≤ ps[j]) ∧ wr = w1) (fun z _ => ps.length - (intOf z).toNat)
  case atStart => exact ⟨0, Nat.zero_le _, rfl, Lib.hid (fun j _ h => absurd h (Nat.not_lt_zero _)), rfl⟩
  case round =>
    obtain ⟨k, hk, rfl, HP, rfl⟩ := hrel
    by_cases hkl : k < ps.length
    · have hkz : (k : Int) < (ps.length : Int) := by omega
      obtain ⟨gn, on, rfl, hgn, hcn⟩ := HC.out (by omega)
      have hx : wr.cell? ⟨gn, on + k, none⟩ = some (iv ps[k]) := (HO1.out.cell (p := ⟨gn, on + k, none⟩) hgn (by simp)).trans (hcn k hkl)
      clear hcn HC
      by_cases hneg : ps[k] < 0
      · go_wp2
        exact bodyPost_ret (results_tmp rfl _ _ _) rfl ⟨rfl, HO1.out⟩
      · go_wp2
        go_roundw
        case measure => simp [intOf]; omega
        case rel => exact ⟨k + 1, by omega, by go_num, Lib.hid (fun j hj hlt => by
            by_cases e : j < k
            · exact HP.out j hj e
            · obtain rfl : j = k := by omega
              omega), by first | rfl | trivial⟩
    · obtain rfl : k = ps.length := by omega
      have HPN := Lib.hid (show ∀ k ∈ ps, 0 ≤ k from fun x hx => by
        obtain ⟨j, hj, rfl⟩ := List.getElem_of_mem hx
        exact HP.out j hj hj)
      clear HP HC
      go_wp2
      go_loopw [10, 11] (fun u i wr2 => ∃ k : Nat, k ≤ n ∧ i = .int .i64 k ∧ Hid (LT w wr2 (fun i => lTask y i times) u k)) (fun _ i _ => n - (intOf i).toNat)
      case atStart => exact ⟨0, Nat.zero_le _, rfl, Lib.hid (LT.nil _ HO1.out)⟩
      case round =>
        obtain ⟨wr2, hwo⟩ : ∃ x : World, x = wr := ⟨_, rfl⟩
        subst hwo
        obtain ⟨k, hk, rfl, HT⟩ := hrel
        clear HO1
        by_cases hkl : k < n
        · have hkz : (k : Int) < (n : Int) := by omega
          go_wp2
          go_loopw [12, 13] (fun l i wq => ∃ r : Nat, r ≤ times ∧ i = .int .i64 r ∧ Hid (Sl wq 47 4 l (r * lM y) (flatA (lTask y k r))) ∧ Hid (∀ g, l.ownBlock = some g → wr2.heap.size ≤ g) ∧ Hid (Only [] wr2 wq)) (fun _ i _ => times - (intOf i).toNat)
          case atStart => exact ⟨0, Nat.zero_le _, rfl, Lib.hid (by rw [Nat.zero_mul]; exact Sl.nil _ _ _), Lib.hid (fun g hg => by cases hg), Lib.hid (Only.refl _ _)⟩
          case round =>
            obtain ⟨wq, hwo⟩ : ∃ x : World, x = wr := ⟨_, rfl⟩
            subst hwo
            obtain ⟨r, hr, rfl, HS, HF, HO⟩ := hrel
            have hq6 : r * lM y ≤ 8 * 6 := Nat.mul_le_mul (by omega) (by rcases lM_two y with ⟨_, e⟩ | ⟨_, e⟩ <;> omega)
            obtain ⟨q, hq⟩ : ∃ q, q = r * lM y := ⟨_, rfl⟩
            rw [← hq] at HS hq6
            obtain ⟨ua, uc, hu, _, _⟩ := HS.out.shape
            subst hu
            by_cases hrl : r < times
            · have hrz : (r : Int) < (times : Int) := by omega
              have hstep : (r + 1) * lM y = q + lM y := by rw [Nat.add_mul, Nat.one_mul, hq]
              have hfl : flatA (lTask y k (r + 1)) = flatA (lTask y k r) ++ flatA (lRound y k) := by rw [show lTask y k (r + 1) = lTask y k r ++ lRound y k from rfl, flatA_append]
              clear hq
              go_wp2_with (at_builtin; refine wpList_append_many (news := [iv 1, iv 2, iv 0, iv 0, iv 9, iv 0, iv 1, iv 0]) (m := 2) rfl (.tmp 59) (.tmp 62) 45 rfl 47 j47 _ 4 32 Try.underlying45 si sz0 sz1 sz2 rfl (by decide) rfl (HS.out.alloc _) rfl (Blk.new _ _ _) rfl (by simp [Value.oneCell']) (by unfold maxLen; omega) (by omega) ?_)
              intro v2 w2 hS2 hg2 hat2
              have HS2 := Lib.hid hS2
              have HF2 := Lib.hid (own_fresh (W := wr2) HF.out (hat2.imp (fun e => e) (fun e => by first | exact e | (rw [e]; simp))) (show wr2.heap.size ≤ wq.heap.size + 1 by have := HO.out.size; omega))
              have HO2 := Lib.hid ((HO.out.alloc (.cells #[iv 1, iv 2, iv 0, iv 0, iv 9, iv 0, iv 1, iv 0] 47)).grown hg2 (fun k hk => .inr (HF.out k hk)))
              obtain ⟨ub, uc2, hu2, _, _⟩ := hS2.shape
              subst hu2
              clear hS2 hg2 hat2 HS HF HO
              cases y
              · go_wp2_with (at_builtin; refine wpList_append_many (news := [iv 8, iv 1, iv 0, iv ((k : Int) + 1), iv 9, iv 1, iv 0, iv 0, iv 2, iv 2, iv 0, iv 0]) (m := 3) rfl (.tmp 69) (.tmp 75) 45 rfl 47 j47 _ 4 32 Try.underlying45 si sz0 sz1 sz2 rfl (by decide) rfl (HS2.out.alloc _) rfl (Blk.new _ _ _) rfl (by simp [Value.oneCell']) (by unfold maxLen; omega) (by omega) ?_)
                intro v3 w3 hS3 hg3 hat3
                have HF3 := Lib.hid (own_fresh (W := wr2) HF2.out (hat3.imp (fun e => e) (fun e => by first | exact e | (rw [e]; simp))) (show wr2.heap.size ≤ w2.heap.size + 1 by have := HO2.out.size; omega))
                have HO3 := Lib.hid ((HO2.out.alloc (.cells #[iv 8, iv 1, iv 0, iv ((k : Int) + 1), iv 9, iv 1, iv 0, iv 0, iv 2, iv 2, iv 0, iv 0] 47)).grown hg3 (fun k hk => .inr (HF2.out k hk)))
                obtain ⟨ud, uc3, hu3, _, _⟩ := hS3.shape
                subst hu3
                have HS3 := Lib.hid hS3
                clear hS3 hg3 hat3 HS2 HO2
                go_wp2
                go_roundw
                case measure => simp [intOf]; omega
                case rel => exact ⟨r + 1, by omega, by go_num, Lib.hid (by
                    rw [hstep, hfl]
                    exact HS3.out), HF3, HO3⟩
              · go_wp2_with (at_builtin; refine wpList_append_one (news := [iv 11, iv 0, iv 0, iv 0]) rfl (.tmp 65) (.tmp 67) 45 rfl 47 j47 _ 4 32 Try.underlying45 si sz0 sz1 sz2 rfl (by decide) rfl (HS2.out.alloc _) rfl (Blk.new _ _ _) rfl (by simp [Value.oneCell']) (by unfold maxLen; omega) (by omega) ?_)
                intro v3 w3 hS3 hg3 hat3
                have HF3 := Lib.hid (own_fresh (W := wr2) HF2.out (hat3.imp (fun e => e) (fun e => by first | exact e | (rw [e]; simp))) (show wr2.heap.size ≤ w2.heap.size + 1 by have := HO2.out.size; omega))
                have HO3 := Lib.hid ((HO2.out.alloc (.cells #[iv 11, iv 0, iv 0, iv 0] 47)).grown hg3 (fun k hk => .inr (HF2.out k hk)))
                obtain ⟨ud, uc3, hu3, _, _⟩ := hS3.shape
                subst hu3
                have HS3 := Lib.hid hS3
                clear hS3 hg3 hat3 HS2 HO2
                go_wp2_with (at_builtin; refine wpList_append_many (news := [iv 8, iv 1, iv 0, iv ((k : Int) + 1), iv 9, iv 1, iv 0, iv 0, iv 2, iv 2, iv 0, iv 0]) (m := 3) rfl (.tmp 69) (.tmp 75) 45 rfl 47 j47 _ 4 32 Try.underlying45 si sz0 sz1 sz2 rfl (by decide) rfl (HS3.out.alloc _) rfl (Blk.new _ _ _) rfl (by simp [Value.oneCell']) (by unfold maxLen; omega) (by omega) ?_)
                intro v4 w4 hS4 hg4 hat4
                have HF4 := Lib.hid (own_fresh (W := wr2) HF3.out (hat4.imp (fun e => e) (fun e => by first | exact e | (rw [e]; simp))) (show wr2.heap.size ≤ w3.heap.size + 1 by have := HO3.out.size; omega))
                have HO4 := Lib.hid ((HO3.out.alloc (.cells #[iv 8, iv 1, iv 0, iv ((k : Int) + 1), iv 9, iv 1, iv 0, iv 0, iv 2, iv 2, iv 0, iv 0] 47)).grown hg4 (fun k hk => .inr (HF3.out k hk)))
                obtain ⟨ue, uc4, hu4, _, _⟩ := hS4.shape
                subst hu4
                have HS4 := Lib.hid hS4
                clear hS4 hg4 hat4 HS3 HO3
                go_wp2
                go_roundw
                case measure => simp [intOf]; omega
                case rel => exact ⟨r + 1, by omega, by go_num, Lib.hid (by
                    rw [hstep, hfl]
                    exact HS4.out), HF4, HO4⟩
            · obtain rfl : r = times := by omega
              have HT2 := Lib.hid (HT.out.far HO.out)
              obtain ⟨vs, hvs, hvs2⟩ := HT2.out.it
              have HVS := Lib.hid hvs
              have HVS2 := Lib.hid hvs2
              have HL : Hid (Sl wq 47 4 (.slice ua q uc) (lTask y k r).length (flatA (lTask y k r))) := Lib.hid (by rw [lTask_len, ← hq]; exact HS.out)
              have HLO := Lib.hid (show ∀ g, (Value.slice ua q uc).ownBlock = some g → w.heap.size ≤ g from fun g hg => by have := HF.out g hg; have := HT.out.only.size; omega)
              obtain ⟨ta, tc, htv, _, _⟩ := hvs.shape
              subst htv
              clear hvs hvs2 HS HF HO hq
              go_wp2_with (at_builtin; refine wpList_append_one (news := [.slice ua q uc]) rfl (.tmp 77) (.tmp 79) 22 rfl 45 j45 _ 1 24 Try.underlying22 ri rz0 rz1 rz2 rfl (by decide) rfl (HVS.out.alloc _) rfl (Blk.new _ _ _) rfl (by simp [Value.oneCell']) (by unfold maxLen; omega) (by omega) ?_)
              intro v3 w3 hS3 hg3 hat3
              have HT3 := Lib.hid (HT2.out.more HVS.out HVS2.out HL.out HLO.out hg3 hat3 hS3)
              obtain ⟨td, tc3, htv3, _, _⟩ := hS3.shape
              subst htv3
              clear hS3 hg3 hat3 HVS HVS2 HL HLO HT2 HT
              go_wp2
              go_roundw
              case measure => simp [intOf]; omega
              case rel => exact ⟨k + 1, by omega, by go_num, HT3⟩
        · obtain rfl : k = n := by omega
          obtain ⟨vs0, hvs0, _⟩ := HT.out.it
          obtain ⟨ta, tc, htv, _, _⟩ := hvs0.shape
          subst htv
          clear hvs0
          have HTT := Lib.hid (show TasksV wr2.heap.size wr2 (.slice ta k tc) (lTasks y k times) from LT.tasks (w := w) (f := fun i => lTask y i times) (by rw [lTasks_len]; exact HT.out) (fun i hi => by simp [lTasks]))
          have HR := Lib.hid (run_ok 1 65536 HTT.out (H.out.only HT.out.only) (fun g hg => Nat.lt_of_lt_of_le (HV.out g hg) HT.out.only.size) (l_asked y (n := k) (times := times) (by omega) (by omega) (by omega) HPN.out))
          have HO3 := Lib.hid HT.out.only
          clear HT HTT
          go_wp2_with fail
          refine HR.out.mono ?_
          clear HR
          rintro e w4 ⟨v, rfl, hV, hB⟩
          have hV : RunV wr2.heap.size w4 (all (ps.map Int.toNat) 65536 (begin_ (lTasks y k times) 1)) v := hV
          have HO4 := Lib.hid (HO3.out.trans (Only.of_below hB []))
          clear hB HPN HO3
          obtain ⟨s, hs, hn, kh, q, kq, kq2⟩ := locks_end y (n := k) (times := times) (by omega) (by omega) (ps.map Int.toNat)
          rw [hs] at hV
          clear hs
          obtain ⟨tr, rg, en, qs, vs, hv, htr, hrg, hen, hqs, _, _, _, _, _⟩ := hV.it
          rw [hn] at hen
          obtain ⟨xa, xc, hx, _, _⟩ := htr.shape
          obtain ⟨ya, yc, hy, _, _⟩ := hqs.shape
          obtain ⟨g1, o1, c1, hr1, hg1, _, _, hc1, _⟩ := hrg.form (by omega)
          obtain ⟨g2, o2, c2, hr2, hg2, _, _, hc2, _⟩ := hen.form (by omega)
          have d0 : w4.cell? ⟨g1, o1, none⟩ = some (iv (s.regs 0)) := hc1 0 (by omega)
          rw [kq] at d0
          have HC2 := Lib.hid (show ∀ i, i < k → w4.cell? ⟨g2, o2 + i * 2, none⟩ = some (iv 1) from fun i hi => (hc2 (i * 2) (by omega)).trans (by rw [ends_at s k i hi, kh i hi]))
          have HQ := Lib.hid kq2
          subst hx hy hr1 hr2
          subst hv
          clear hc1 hc2 htr hrg hen hqs hV kh kq2
          go_wp2
          go_loopw [16] (fun z wr => ∃ i : Nat, i ≤ k ∧ z = .int .i64 i ∧ wr = w4.alloc (.cells #[.int .i64 s.trace.length, .slice xa s.trace.length xc, .slice (some ⟨g1, o1, none⟩) 8 c1, .slice (some ⟨g2, o2, none⟩) k c2, .slice ya 4 yc] 33)) (fun z _ => k - (intOf z).toNat)
          case atStart => exact ⟨0, Nat.zero_le _, rfl, rfl⟩
          case round =>
            obtain ⟨i, hi, rfl, rfl⟩ := hrel
            by_cases hil : i < k
            · have hiz : (i : Int) < (k : Int) := by omega
              have x := HC2.out i hil
              clear HC2 HQ
              go_wp2
              go_roundw
              case measure => simp [intOf]; omega
              case rel => exact ⟨i + 1, by omega, by go_num, by first | rfl | trivial⟩
            · obtain rfl : i = k := by omega
              clear HC2
              go_wp2
              rw [locks_sum HQ.out (by omega) (by omega)]
              exact bodyPost_ret (results_tmp rfl _ _ _) rfl ⟨rfl, HO4.out.alloc _⟩
theorem locks_row (W : World) (n times : Int) (v : Value) (l : List Int) (h : Row (fun s => .int .i64 s) W v l) (_hw : ∀ i (h : i < l.length), (Lit.int .i64 l[i]).wf = true) (ho : ∀ g, v.ownBlock = some g → g < W.heap.size) (y : Bool) : Calls Try.prog 5 #[.int .i64 n, .int .i64 times, v, .bool y] W fun e W' => e = .returned (.bool true) ∧ Only [] W W' := locks_ok n times y h ho
end Go.Proofs.Ytompelilflckkaa
